/- WALKS over vars, jalousieref14: what a use names. No condition. -/
import Derived.Test.YthcaphoejplecaaGreatDoorVaT
set_option linter.unusedSimpArgs false
set_option linter.unusedVariables false
namespace Go
open Go.RowKit
/-- a name that may stand in a use -/
def nameOkT (v : Vt) : Bool := decide (v.t.k = 1) && customB v.t.s
theorem nameOk_iff (t : Tk) (ks : List Vt) : nameOkT (.mk t ks) = true ↔ t.k = 1 ∧ customB t.s = true := by
  show (decide (t.k = 1) && customB t.s) = true ↔ _
  rw [Bool.and_eq_true, decide_eq_true_iff]
theorem namedT_nil {v : Vt} (h : trimT v.kids = []) : namedT v = none := by unfold namedT; rw [h]
theorem namedT_bad {v a : Vt} {l : List Vt} (h : trimT v.kids = a :: l) (ha : nameOkT a = false) : namedT v = none := by
  unfold namedT; rw [h]
  simp only
  rw [if_pos]
  unfold nameOkT at ha
  by_cases hk : a.t.k = 1
  · right; simpa [hk] using ha
  · exact .inl hk
theorem namedT_go {v a : Vt} {l : List Vt} (h : trimT v.kids = a :: l) (ha : nameOkT a = true) : namedT v = match trimT l with | [] => some (a.t.s, []) | b :: r => if b.t.k ≠ 18 then none else some (a.t.s, b :: r) := by
  unfold namedT; rw [h]
  simp only
  have hno : ¬ (a.t.k ≠ 1 ∨ customB a.t.s = false) := by
    unfold nameOkT at ha
    simp only [Bool.and_eq_true, decide_eq_true_eq] at ha
    intro hh
    rcases hh with hh | hh
    · exact hh ha.1
    · rw [ha.2] at hh; cases hh
  rw [if_neg hno]
  cases trimT l with
  | nil => rfl
  | cons b r => rfl
end Go
namespace Go.Proofs.YthcaphoejplecaaGreatDoor
open Go.RowKit
/-- what named answers -/
def NamedPost (w : World) (o : Option (ByteArray × List Vt)) (e : Ending) (w' : World) : Prop :=
  w.grows w' ∧ match o with
  | none => e = .returned (.tuple #[.string ByteArray.empty, .slice none 0 0, .bool false])
  | some (nm, rest) => ∃ r, e = .returned (.tuple #[.string nm, r, .bool true]) ∧ VsAt w' (fun g => w.heap.size ≤ g) r rest ∧ nm.size ≤ maxLen
set_option maxRecDepth 100000 in
set_option maxHeartbeats 4000000 in
theorem named_any {w : World} {S : Nat → Prop} {t : Tk} {vk : Value} {ks : List Vt} (ht : t.Wf) (h : VsAt w S vk ks) (hn : nodesL ks ≤ 4194304) :
    Calls Tryz.prog 33 #[vtV t vk] w (NamedPost w (if useT (.mk t ks) = true then namedT (.mk t ks) else none)) := by
  obtain ⟨aK, cK, rfl, -, -⟩ := SlAt.len h
  have HK := Lib.hid h
  have HN := Lib.hid hn
  have HU := Lib.hid (show ∀ (g : Nat) (W : World), _ from fun g W => pvars1_any t ht g W)
  have HT := Lib.hid (show useT (.mk t []) = useT (.mk t ks) from rfl)
  clear h hn
  rw [HT.out] at HU
  obtain ⟨k, s, n1, d, q1, q2⟩ := t
  by_cases hu : useT (.mk ⟨k, s, n1, d, q1, q2⟩ ks) = true
  · rw [if_pos hu]
    rw [hu] at HU
    clear hu HT ht
    go_enter Tryz.func33, Tryz.ntmps33
    go_upto_region 3 with (go_at_call 51; go_loud ((with_reducible refine (HU.out _ _ (by simp [go_sem])).mono ?_); rintro r w1 ⟨rfl, x1, rfl⟩))
    go_upto_region 4 with (go_at_call 52; go_loud ((with_reducible refine (rtrim_any (HK.out.grows (show World.grows w _ from (by repeat (with_reducible first | assumption | exact grA | apply grB | apply grC | apply grD | refine grE ?_ (by omega) _ | refine grF ?_ (by omega) _ _)))) HN.out).mono ?_); rintro r w5 ⟨v5, rfl, hg5, hv5⟩))
    have hg : w.grows w5 := World.grows.trans (by repeat (with_reducible first | assumption | exact grA | apply grB | apply grC | apply grD | refine grE ?_ (by omega) _ | refine grF ?_ (by omega) _ _)) hg5
    have HV5 : Hid (VsAt w5 (fun g => w.heap.size ≤ g) v5 (trimT ks) ∧ nodesL (trimT ks) ≤ 4194304) := Lib.hid ⟨hv5.keep fun g hS hl => ⟨rfl, by have : w.heap.size ≤ g := Nat.le_trans (show World.grows w _ from (by repeat (with_reducible first | assumption | exact grA | apply grB | apply grC | apply grD | refine grE ?_ (by omega) _ | refine grF ?_ (by omega) _ _))).below.size hS; exact this⟩, Nat.le_trans (nodesL_trim ks) HN.out⟩
    obtain ⟨a5, c5, rfl, -, -⟩ := hv5.len
    clear hv5 hg5 HU
    obtain ⟨T, hT⟩ : ∃ T, trimT ks = T := ⟨_, rfl⟩
    have HT := Lib.hid hT
    rw [hT] at HV5
    rw [hT]
    clear hT
    cases T with
    | nil =>
      have HNO := Lib.hid (namedT_nil (v := .mk ⟨k, s, n1, d, q1, q2⟩ ks) HT.out)
      simp only [List.length_nil]
      go_wp2_with fail
      go_ret3
      rw [HNO.out]
      exact ⟨hg.trans (by repeat (with_reducible first | assumption | exact grA | apply grB | apply grC | apply grD | refine grE ?_ (by omega) _ | refine grF ?_ (by omega) _ _)), rfl⟩
    | cons x l =>
      obtain ⟨g, off, cs, rfl, -, -, k1, hv⟩ := HV5.out.1.elt (i := 0) (x := x) rfl
      obtain ⟨⟨kx, sx, nx, dx, px, qx⟩, kk⟩ := x
      obtain ⟨txf, vx, rfl, hkk⟩ := VOk_open hv
      obtain ⟨aX, cX, rfl, -, -⟩ := hkk.len
      obtain ⟨b1, b2, b3⟩ := HV5.out.1.bound
      rw [Nat.zero_mul, Nat.add_zero] at k1
      have hk0 := k1.cell (j := 0) rfl
      have hk1 := k1.cell (j := 1) rfl
      rw [World.cell?_row, Nat.add_zero] at hk0
      rw [World.cell?_row] at hk1
      have z3 := lt_sz k1.lt
      have HCU := Lib.hid (fun (W : World) => pcustom_any sx txf.2.1 W)
      have HEL := Lib.hid k1
      have i0 : ((l.length : Int) + 1 == 0) = false := by rw [beq_eq_false_iff_ne]; omega
      have i1 : ¬ ((l.length : Int) + 1 = 0) := by omega
      clear k1 hv hkk
      simp only [List.length_cons] at b1 b2 ⊢
      by_cases hok : nameOkT (.mk ⟨kx, sx, nx, dx, px, qx⟩ kk) = true
      · obtain ⟨hkx, hcx⟩ := (nameOk_iff _ _).1 hok
        simp only at hkx hcx
        subst hkx
        have HGO := Lib.hid (namedT_go (v := .mk ⟨k, s, n1, d, q1, q2⟩ ks) HT.out hok)
        rw [hcx] at HCU
        clear hok hcx
        have c1 : (1 : Int) ≤ (l.length : Int) + 1 := by omega
        by_cases hcap : c5 = 1
        · subst hcap
          obtain rfl : l = [] := List.length_eq_zero_iff.1 (by omega)
          have HARG := Lib.hid (And.intro (SlAt_empty w5 (fun g => w.heap.size ≤ g) 7 (VOk w5 (fun g => w.heap.size ≤ g)) (some ⟨g, off, none⟩) 0 (by omega)) (show nodesL [] ≤ 4194304 by simp [nodesL]))
          simp only [List.length_nil] at *
          go_upto_region 7 with (first | (go_at_call 29; (with_reducible refine (HCU.out _).mono ?_); rintro e w1 ⟨rfl, x1, rfl⟩) | (go_at_call 52; go_loud ((with_reducible refine (rtrim_any (HARG.out.1.grows (show World.grows w5 _ from (by repeat (with_reducible first | assumption | exact grA | apply grB | apply grC | apply grD | refine grE ?_ (by omega) _ | refine grF ?_ (by omega) _ _))) (fun _ _ _ h => h.grows (by repeat (with_reducible first | assumption | exact grA | apply grB | apply grC | apply grD | refine grE ?_ (by omega) _ | refine grF ?_ (by omega) _ _)))) HARG.out.2).mono ?_); rintro r w6 ⟨v6, rfl, hg6, hv6⟩)))
          have hg56 : w5.grows w6 := World.grows.trans (by repeat (with_reducible first | assumption | exact grA | apply grB | apply grC | apply grD | refine grE ?_ (by omega) _ | refine grF ?_ (by omega) _ _)) hg6
          have HEL6 := Lib.hid (HEL.out.grows hg56)
          have HV6 := Lib.hid (hv6.keep (S' := fun g => w.heap.size ≤ g) (fun g hS hl => ⟨rfl, Nat.le_trans hg.below.size (Nat.le_trans (World.grows.below (by repeat (with_reducible first | assumption | exact grA | apply grB | apply grC | apply grD | refine grE ?_ (by omega) _ | refine grF ?_ (by omega) _ _))).size hS)⟩))
          obtain ⟨a6, c6, rfl, -, -⟩ := hv6.len
          clear hv6 hg6 hk0 hk1 z3
          have hk1 := HEL6.out.cell (j := 1) rfl
          rw [World.cell?_row] at hk1
          have z3 := lt_sz HEL6.out.lt
          have hgw6 := hg.trans hg56
          generalize trimT [] = T2 at *
          cases T2 with
          | nil =>
            simp only [List.length_nil] at *
            go_wp2_with fail
            go_ret3
            rw [HGO.out]
            exact ⟨hgw6.trans (by repeat (with_reducible first | assumption | exact grA | apply grB | apply grC | apply grD | refine grE ?_ (by omega) _ | refine grF ?_ (by omega) _ _)), _, rfl, SlAt_empty _ _ _ _ _ _ (by have := HV6.out.bound; omega), txf.2.1⟩
          | cons y r =>
            obtain ⟨g6, off6, cs6, rfl, -, -, e6, hy⟩ := HV6.out.elt (i := 0) (x := y) rfl
            obtain ⟨⟨ky, sy, ny, dy, py, qy⟩, ksy⟩ := y
            obtain ⟨tyf, vy, rfl, -⟩ := VOk_open hy
            rw [Nat.zero_mul, Nat.add_zero] at e6
            have hy0 := e6.cell (j := 0) rfl
            rw [World.cell?_row, Nat.add_zero] at hy0
            have z6 := lt_sz e6.lt
            simp only [List.length_cons]
            have m0 : (0 : Int) < (r.length : Int) + 1 := by omega
            by_cases hky : ky = 18
            · subst hky
              clear hy e6
              go_wp2_with fail
              go_ret3
              rw [HGO.out]
              exact ⟨hgw6.trans (by repeat (with_reducible first | assumption | exact grA | apply grB | apply grC | apply grD | refine grE ?_ (by omega) _ | refine grF ?_ (by omega) _ _)), _, rfl, VsAt.grows HV6.out (by repeat (with_reducible first | assumption | exact grA | apply grB | apply grC | apply grD | refine grE ?_ (by omega) _ | refine grF ?_ (by omega) _ _)), txf.2.1⟩
            · have hb : (ky != 18) = true := by simpa using hky
              have hb2 : (ky == 18) = false := by simpa using hky
              have HKY := Lib.hid hky
              clear hy e6 hky
              go_wp2_with fail
              go_ret3
              rw [HGO.out]
              show NamedPost w (if ky ≠ 18 then none else _) _ _
              rw [if_pos HKY.out]
              exact ⟨hgw6.trans (by repeat (with_reducible first | assumption | exact grA | apply grB | apply grC | apply grD | refine grE ?_ (by omega) _ | refine grF ?_ (by omega) _ _)), rfl⟩
        · have c2 : (1 : Int) ≤ (c5 : Int) := by omega
          have c3 : ¬ (c5 : Int) = 1 := by omega
          have HARG := Lib.hid (And.intro (SlAt.tail1 HV5.out.1) (show nodesL l ≤ 4194304 by have := HV5.out.2; simp [nodesL] at this; omega))
          go_upto_region 7 with (first | (go_at_call 29; (with_reducible refine (HCU.out _).mono ?_); rintro e w1 ⟨rfl, x1, rfl⟩) | (go_at_call 52; go_loud ((with_reducible refine (rtrim_any (HARG.out.1.grows (show World.grows w5 _ from (by repeat (with_reducible first | assumption | exact grA | apply grB | apply grC | apply grD | refine grE ?_ (by omega) _ | refine grF ?_ (by omega) _ _))) (fun _ _ _ h => h.grows (by repeat (with_reducible first | assumption | exact grA | apply grB | apply grC | apply grD | refine grE ?_ (by omega) _ | refine grF ?_ (by omega) _ _)))) HARG.out.2).mono ?_); rintro r w6 ⟨v6, rfl, hg6, hv6⟩)))
          have hg56 : w5.grows w6 := World.grows.trans (by repeat (with_reducible first | assumption | exact grA | apply grB | apply grC | apply grD | refine grE ?_ (by omega) _ | refine grF ?_ (by omega) _ _)) hg6
          have HEL6 := Lib.hid (HEL.out.grows hg56)
          have HV6 := Lib.hid (hv6.keep (S' := fun g => w.heap.size ≤ g) (fun g hS hl => ⟨rfl, Nat.le_trans hg.below.size (Nat.le_trans (World.grows.below (by repeat (with_reducible first | assumption | exact grA | apply grB | apply grC | apply grD | refine grE ?_ (by omega) _ | refine grF ?_ (by omega) _ _))).size hS)⟩))
          obtain ⟨a6, c6, rfl, -, -⟩ := hv6.len
          clear hv6 hg6 hk0 hk1 z3
          have hk1 := HEL6.out.cell (j := 1) rfl
          rw [World.cell?_row] at hk1
          have z3 := lt_sz HEL6.out.lt
          have hgw6 := hg.trans hg56
          generalize trimT l = T2 at *
          cases T2 with
          | nil =>
            simp only [List.length_nil] at *
            go_wp2_with fail
            go_ret3
            rw [HGO.out]
            exact ⟨hgw6.trans (by repeat (with_reducible first | assumption | exact grA | apply grB | apply grC | apply grD | refine grE ?_ (by omega) _ | refine grF ?_ (by omega) _ _)), _, rfl, SlAt_empty _ _ _ _ _ _ (by have := HV6.out.bound; omega), txf.2.1⟩
          | cons y r =>
            obtain ⟨g6, off6, cs6, rfl, -, -, e6, hy⟩ := HV6.out.elt (i := 0) (x := y) rfl
            obtain ⟨⟨ky, sy, ny, dy, py, qy⟩, ksy⟩ := y
            obtain ⟨tyf, vy, rfl, -⟩ := VOk_open hy
            rw [Nat.zero_mul, Nat.add_zero] at e6
            have hy0 := e6.cell (j := 0) rfl
            rw [World.cell?_row, Nat.add_zero] at hy0
            have z6 := lt_sz e6.lt
            simp only [List.length_cons]
            have m0 : (0 : Int) < (r.length : Int) + 1 := by omega
            by_cases hky : ky = 18
            · subst hky
              clear hy e6
              go_wp2_with fail
              go_ret3
              rw [HGO.out]
              exact ⟨hgw6.trans (by repeat (with_reducible first | assumption | exact grA | apply grB | apply grC | apply grD | refine grE ?_ (by omega) _ | refine grF ?_ (by omega) _ _)), _, rfl, VsAt.grows HV6.out (by repeat (with_reducible first | assumption | exact grA | apply grB | apply grC | apply grD | refine grE ?_ (by omega) _ | refine grF ?_ (by omega) _ _)), txf.2.1⟩
            · have hb : (ky != 18) = true := by simpa using hky
              have hb2 : (ky == 18) = false := by simpa using hky
              have HKY := Lib.hid hky
              clear hy e6 hky
              go_wp2_with fail
              go_ret3
              rw [HGO.out]
              show NamedPost w (if ky ≠ 18 then none else _) _ _
              rw [if_pos HKY.out]
              exact ⟨hgw6.trans (by repeat (with_reducible first | assumption | exact grA | apply grB | apply grC | apply grD | refine grE ?_ (by omega) _ | refine grF ?_ (by omega) _ _)), rfl⟩
      · have HNO := Lib.hid (namedT_bad (v := .mk ⟨k, s, n1, d, q1, q2⟩ ks) HT.out (by simpa using hok))
        by_cases hkx : kx = 1
        · have hcx : customB sx = false := by
            cases hc : customB sx with
            | false => rfl
            | true => exact absurd ((nameOk_iff _ _).2 ⟨hkx, hc⟩) hok
          subst hkx
          rw [hcx] at HCU
          clear hcx hok
          go_wp2_with ((go_at_call 29; (with_reducible refine (HCU.out _).mono ?_); rintro e w1 ⟨rfl, x1, rfl⟩))
          go_ret3
          rw [HNO.out]
          exact ⟨hg.trans (by repeat (with_reducible first | assumption | exact grA | apply grB | apply grC | apply grD | refine grE ?_ (by omega) _ | refine grF ?_ (by omega) _ _)), rfl⟩
        · have hb : (kx != 1) = true := by simpa using hkx
          have hb2 : (kx == 1) = false := by simpa using hkx
          clear hok
          go_wp2_with fail
          go_ret3
          rw [HNO.out]
          exact ⟨hg.trans (by repeat (with_reducible first | assumption | exact grA | apply grB | apply grC | apply grD | refine grE ?_ (by omega) _ | refine grF ?_ (by omega) _ _)), rfl⟩
  · have hu' : useT (.mk ⟨k, s, n1, d, q1, q2⟩ ks) = false := by simpa using hu
    rw [if_neg hu]
    rw [hu'] at HU
    clear hu hu' HT ht
    go_enter Tryz.func33, Tryz.ntmps33
    go_wp2_with (go_at_call 51; go_loud ((with_reducible refine (HU.out _ _ (by simp [go_sem])).mono ?_); rintro r w1 ⟨rfl, x1, rfl⟩))
    go_ret3
    exact ⟨(by repeat (with_reducible first | assumption | exact grA | apply grB | apply grC | apply grD | refine grE ?_ (by omega) _ | refine grF ?_ (by omega) _ _)), rfl⟩
theorem results_tmp4 {fn : Func} {t u v x : Tmp} (h : fn.results = #[.tmp t, .tmp u, .tmp v, .tmp x]) (tmps : Array Value) (P : Program) (w : World) :
    (results fn tmps).run P w = .ok (.tuple #[tmps.getD t undef, tmps.getD u undef, tmps.getD v undef, tmps.getD x undef]) w := by
  simp [results, h]
/-- what the reference's Use answers: the name, the stand-in, if there is one, whether it may be -/
def UsePost (w : World) (S : Nat → Prop) (o : Option (ByteArray × List Vt)) (e : Ending) (w' : World) : Prop :=
  w.grows w' ∧ match o with
  | none => e = .returned (.tuple #[.string ByteArray.empty, .slice none 0 0, .bool false, .bool false])
  | some (nm, []) => e = .returned (.tuple #[.string nm, .slice none 0 0, .bool false, .bool true])
  | some (nm, _ :: r) => ∃ u, e = .returned (.tuple #[.string nm, u, .bool true, .bool true]) ∧ VsAt w' S u (trimT r)
set_option maxRecDepth 100000 in
set_option maxHeartbeats 4000000 in
theorem fUse_any {w : World} {S : Nat → Prop} {t : Tk} {vk : Value} {ks : List Vt} (h : VsAt w S vk ks) :
    Calls Tryz.prog 46 #[vtV t vk] w (UsePost w S (namedT (.mk t ks))) := by
  obtain ⟨aK, cK, rfl, -, -⟩ := SlAt.len h
  have HK := Lib.hid h
  clear h
  obtain ⟨k, s, n1, d, q1, q2⟩ := t
  go_enter Tryz.func46, Tryz.ntmps46
  go_upto_region 2 with (go_at_call 65; go_loud ((with_reducible refine (ftrim_any (HK.out.grows (show World.grows w _ from (by repeat (with_reducible first | assumption | exact grA | apply grB | apply grC | apply grD | refine grE ?_ (by omega) _ | refine grF ?_ (by omega) _ _))))).mono ?_); rintro r w5 ⟨v5, rfl, hg5, hv5⟩))
  have hg : w.grows w5 := World.grows.trans (by repeat (with_reducible first | assumption | exact grA | apply grB | apply grC | apply grD | refine grE ?_ (by omega) _ | refine grF ?_ (by omega) _ _)) hg5
  have HV5 := Lib.hid hv5
  obtain ⟨a5, c5, rfl, -, -⟩ := hv5.len
  clear hv5 hg5
  obtain ⟨T, hT⟩ : ∃ T, trimT ks = T := ⟨_, rfl⟩
  have HT := Lib.hid hT
  rw [hT] at HV5
  rw [hT]
  clear hT
  cases T with
  | nil =>
    have HNO := Lib.hid (namedT_nil (v := .mk ⟨k, s, n1, d, q1, q2⟩ ks) HT.out)
    simp only [List.length_nil]
    go_wp2_with fail
    ((try simp only [Exit.inBlock, Exit.then]); refine bodyPost_ret (results_tmp4 rfl _ _ _) rfl ?_)
    rw [HNO.out]
    exact ⟨hg.trans (by repeat (with_reducible first | assumption | exact grA | apply grB | apply grC | apply grD | refine grE ?_ (by omega) _ | refine grF ?_ (by omega) _ _)), rfl⟩
  | cons x l =>
    obtain ⟨g, off, cs, rfl, -, -, k1, hv⟩ := HV5.out.elt (i := 0) (x := x) rfl
    obtain ⟨⟨kx, sx, nx, dx, px, qx⟩, kk⟩ := x
    obtain ⟨txf, vx, rfl, hkk⟩ := VOk_open hv
    obtain ⟨aX, cX, rfl, -, -⟩ := hkk.len
    obtain ⟨b1, b2, b3⟩ := HV5.out.bound
    rw [Nat.zero_mul, Nat.add_zero] at k1
    have hk0 := k1.cell (j := 0) rfl
    have hk1 := k1.cell (j := 1) rfl
    rw [World.cell?_row, Nat.add_zero] at hk0
    rw [World.cell?_row] at hk1
    have z3 := lt_sz k1.lt
    have HCU := Lib.hid (fun (W : World) => fcustom_any sx W)
    have HEL := Lib.hid k1
    have i0 : ((l.length : Int) + 1 == 0) = false := by rw [beq_eq_false_iff_ne]; omega
    have i1 : ¬ ((l.length : Int) + 1 = 0) := by omega
    clear k1 hv hkk
    simp only [List.length_cons] at b1 b2 ⊢
    by_cases hok : nameOkT (.mk ⟨kx, sx, nx, dx, px, qx⟩ kk) = true
    · obtain ⟨hkx, hcx⟩ := (nameOk_iff _ _).1 hok
      simp only at hkx hcx
      subst hkx
      have HGO := Lib.hid (namedT_go (v := .mk ⟨k, s, n1, d, q1, q2⟩ ks) HT.out hok)
      rw [hcx] at HCU
      clear hok hcx
      have c1 : (1 : Int) ≤ (l.length : Int) + 1 := by omega
      by_cases hcap : c5 = 1
      · subst hcap
        obtain rfl : l = [] := List.length_eq_zero_iff.1 (by omega)
        have HARG := Lib.hid (SlAt_empty w5 S 7 (VOk w5 S) (some ⟨g, off, none⟩) 0 (by omega))
        simp only [List.length_nil] at *
        go_upto_region 5 with (first | (go_at_call 38; (with_reducible refine (HCU.out _).mono ?_); rintro e w1 ⟨rfl, x1, rfl⟩) | (go_at_call 65; go_loud ((with_reducible refine (ftrim_any (HARG.out.grows (show World.grows w5 _ from (by repeat (with_reducible first | assumption | exact grA | apply grB | apply grC | apply grD | refine grE ?_ (by omega) _ | refine grF ?_ (by omega) _ _))) (fun _ _ _ h => h.grows (by repeat (with_reducible first | assumption | exact grA | apply grB | apply grC | apply grD | refine grE ?_ (by omega) _ | refine grF ?_ (by omega) _ _))))).mono ?_); rintro r w6 ⟨v6, rfl, hg6, hv6⟩)))
        have hg56 : w5.grows w6 := World.grows.trans (by repeat (with_reducible first | assumption | exact grA | apply grB | apply grC | apply grD | refine grE ?_ (by omega) _ | refine grF ?_ (by omega) _ _)) hg6
        have HEL6 := Lib.hid (HEL.out.grows hg56)
        have HV6 := Lib.hid hv6
        obtain ⟨a6, c6, rfl, -, -⟩ := hv6.len
        clear hv6 hg6 hk0 hk1 z3
        have hk1 := HEL6.out.cell (j := 1) rfl
        rw [World.cell?_row] at hk1
        have z3 := lt_sz HEL6.out.lt
        have hgw6 := hg.trans hg56
        generalize trimT [] = T2 at *
        cases T2 with
        | nil =>
          simp only [List.length_nil] at *
          go_wp2_with fail
          ((try simp only [Exit.inBlock, Exit.then]); refine bodyPost_ret (results_tmp4 rfl _ _ _) rfl ?_)
          rw [HGO.out]
          exact ⟨hgw6.trans (by repeat (with_reducible first | assumption | exact grA | apply grB | apply grC | apply grD | refine grE ?_ (by omega) _ | refine grF ?_ (by omega) _ _)), rfl⟩
        | cons y r =>
          obtain ⟨g6, off6, cs6, rfl, -, -, e6, hy⟩ := HV6.out.elt (i := 0) (x := y) rfl
          obtain ⟨⟨ky, sy, ny, dy, py, qy⟩, ksy⟩ := y
          obtain ⟨tyf, vy, rfl, -⟩ := VOk_open hy
          rw [Nat.zero_mul, Nat.add_zero] at e6
          have hy0 := e6.cell (j := 0) rfl
          rw [World.cell?_row, Nat.add_zero] at hy0
          have z6 := lt_sz e6.lt
          simp only [List.length_cons]
          have m0 : ((r.length : Int) + 1 == 0) = false := by rw [beq_eq_false_iff_ne]; omega
          have m1 : ¬ ((r.length : Int) + 1 = 0) := by omega
          by_cases hky : ky = 18
          · subst hky
            clear hy e6
            have n1' : (1 : Int) ≤ (r.length : Int) + 1 := by omega
            have hb6 := HV6.out.bound
            simp only [List.length_cons] at hb6
            have nn : (0 : Int) < (r.length : Int) + 1 := by omega
            by_cases hc6 : c6 = 1
            · subst hc6
              obtain rfl : r = [] := List.length_eq_zero_iff.1 (by omega)
              have HARG2 := Lib.hid (SlAt_empty w6 S 7 (VOk w6 S) (some ⟨g6, off6, none⟩) 0 (by omega))
              simp only [List.length_nil] at *
              go_upto_region 9 with fail
              refine wp_region_plus_seq (by kernel_rfl) (by kernel_rfl) (fun x0 => ?_)
              repeat (any_goals (first | (refine wpSeqL_free rfl ?_; first | (go_big_quiet_skip; refine wpQuiet_nil ?_) | (go_big_quiet_step (fail); refine wpQuiet_nil ?_) | (refine wpQuiet_step (fun K hK => ?_); go_simp; split <;> (refine hK _ ?_; clear hK K; refine wpQuiet_nil ?_))) | (refine wpSeqL_link rfl (fun K hK => ?_); go_simp; first | first | (refine hK _ _ (by show World.grows _ _; repeat (first | assumption | exact grA | apply grB | apply grC | apply grD)) ?_; clear hK K) | (((go_at_call 65; go_loud ((with_reducible refine (ftrim_any (HARG2.out.grows (show World.grows w6 _ from (by repeat (with_reducible first | assumption | exact grA | apply grB | apply grC | apply grD | refine grE ?_ (by omega) _ | refine grF ?_ (by omega) _ _))) (fun _ _ _ h => h.grows (by repeat (with_reducible first | assumption | exact grA | apply grB | apply grC | apply grD | refine grE ?_ (by omega) _ | refine grF ?_ (by omega) _ _))))).mono ?_); rintro r w7 ⟨v7, rfl, hg7, hv7⟩; (have hg7q : World.grows w6 w7 := World.grows.trans (by repeat (with_reducible first | assumption | exact grA | apply grB | apply grC | apply grD | refine grE ?_ (by omega) _ | refine grF ?_ (by omega) _ _)) hg7)))); refine ⟨_, rfl, hK _ _ (by show World.grows _ _; repeat (first | assumption | exact grA | apply grB | apply grC | apply grD)) ?_⟩; clear hK K) | (split <;> (first | (refine hK _ _ (by show World.grows _ _; repeat (first | assumption | exact grA | apply grB | apply grC | apply grD)) ?_; clear hK K) | (((go_at_call 65; go_loud ((with_reducible refine (ftrim_any (HARG2.out.grows (show World.grows w6 _ from (by repeat (with_reducible first | assumption | exact grA | apply grB | apply grC | apply grD | refine grE ?_ (by omega) _ | refine grF ?_ (by omega) _ _))) (fun _ _ _ h => h.grows (by repeat (with_reducible first | assumption | exact grA | apply grB | apply grC | apply grD | refine grE ?_ (by omega) _ | refine grF ?_ (by omega) _ _))))).mono ?_); rintro r w7 ⟨v7, rfl, hg7, hv7⟩; (have hg7q : World.grows w6 w7 := World.grows.trans (by repeat (with_reducible first | assumption | exact grA | apply grB | apply grC | apply grD | refine grE ?_ (by omega) _ | refine grF ?_ (by omega) _ _)) hg7)))); refine ⟨_, rfl, hK _ _ (by show World.grows _ _; repeat (first | assumption | exact grA | apply grB | apply grC | apply grD)) ?_⟩; clear hK K))))))
              all_goals (refine wpSeqL_end ?_)
              go_wp2_with fail
              ((try simp only [Exit.inBlock, Exit.then]); refine bodyPost_ret (results_tmp4 rfl _ _ _) rfl ?_)
              rw [HGO.out]
              exact ⟨hgw6.trans (hg7q.trans (by repeat (with_reducible first | assumption | exact grA | apply grB | apply grC | apply grD | refine grE ?_ (by omega) _ | refine grF ?_ (by omega) _ _))), _, rfl, VsAt.grows hv7 (by repeat (with_reducible first | assumption | exact grA | apply grB | apply grC | apply grD | refine grE ?_ (by omega) _ | refine grF ?_ (by omega) _ _))⟩
            · have q2 : (1 : Int) ≤ (c6 : Int) := by omega
              have q3 : ¬ (c6 : Int) = 1 := by omega
              have HARG2 := Lib.hid (SlAt.tail1 HV6.out)
              go_upto_region 9 with fail
              refine wp_region_plus_seq (by kernel_rfl) (by kernel_rfl) (fun x0 => ?_)
              repeat (any_goals (first | (refine wpSeqL_free rfl ?_; first | (go_big_quiet_skip; refine wpQuiet_nil ?_) | (go_big_quiet_step (fail); refine wpQuiet_nil ?_) | (refine wpQuiet_step (fun K hK => ?_); go_simp; split <;> (refine hK _ ?_; clear hK K; refine wpQuiet_nil ?_))) | (refine wpSeqL_link rfl (fun K hK => ?_); go_simp; first | first | (refine hK _ _ (by show World.grows _ _; repeat (first | assumption | exact grA | apply grB | apply grC | apply grD)) ?_; clear hK K) | (((go_at_call 65; go_loud ((with_reducible refine (ftrim_any (HARG2.out.grows (show World.grows w6 _ from (by repeat (with_reducible first | assumption | exact grA | apply grB | apply grC | apply grD | refine grE ?_ (by omega) _ | refine grF ?_ (by omega) _ _))) (fun _ _ _ h => h.grows (by repeat (with_reducible first | assumption | exact grA | apply grB | apply grC | apply grD | refine grE ?_ (by omega) _ | refine grF ?_ (by omega) _ _))))).mono ?_); rintro r w7 ⟨v7, rfl, hg7, hv7⟩; (have hg7q : World.grows w6 w7 := World.grows.trans (by repeat (with_reducible first | assumption | exact grA | apply grB | apply grC | apply grD | refine grE ?_ (by omega) _ | refine grF ?_ (by omega) _ _)) hg7)))); refine ⟨_, rfl, hK _ _ (by show World.grows _ _; repeat (first | assumption | exact grA | apply grB | apply grC | apply grD)) ?_⟩; clear hK K) | (split <;> (first | (refine hK _ _ (by show World.grows _ _; repeat (first | assumption | exact grA | apply grB | apply grC | apply grD)) ?_; clear hK K) | (((go_at_call 65; go_loud ((with_reducible refine (ftrim_any (HARG2.out.grows (show World.grows w6 _ from (by repeat (with_reducible first | assumption | exact grA | apply grB | apply grC | apply grD | refine grE ?_ (by omega) _ | refine grF ?_ (by omega) _ _))) (fun _ _ _ h => h.grows (by repeat (with_reducible first | assumption | exact grA | apply grB | apply grC | apply grD | refine grE ?_ (by omega) _ | refine grF ?_ (by omega) _ _))))).mono ?_); rintro r w7 ⟨v7, rfl, hg7, hv7⟩; (have hg7q : World.grows w6 w7 := World.grows.trans (by repeat (with_reducible first | assumption | exact grA | apply grB | apply grC | apply grD | refine grE ?_ (by omega) _ | refine grF ?_ (by omega) _ _)) hg7)))); refine ⟨_, rfl, hK _ _ (by show World.grows _ _; repeat (first | assumption | exact grA | apply grB | apply grC | apply grD)) ?_⟩; clear hK K))))))
              all_goals (refine wpSeqL_end ?_)
              go_wp2_with fail
              ((try simp only [Exit.inBlock, Exit.then]); refine bodyPost_ret (results_tmp4 rfl _ _ _) rfl ?_)
              rw [HGO.out]
              exact ⟨hgw6.trans (hg7q.trans (by repeat (with_reducible first | assumption | exact grA | apply grB | apply grC | apply grD | refine grE ?_ (by omega) _ | refine grF ?_ (by omega) _ _))), _, rfl, VsAt.grows hv7 (by repeat (with_reducible first | assumption | exact grA | apply grB | apply grC | apply grD | refine grE ?_ (by omega) _ | refine grF ?_ (by omega) _ _))⟩
          · have hb : (ky != 18) = true := by simpa using hky
            have hb2 : (ky == 18) = false := by simpa using hky
            have HKY := Lib.hid hky
            clear hy e6 hky
            go_wp2_with fail
            ((try simp only [Exit.inBlock, Exit.then]); refine bodyPost_ret (results_tmp4 rfl _ _ _) rfl ?_)
            rw [HGO.out]
            show UsePost w S (if ky ≠ 18 then none else _) _ _
            rw [if_pos HKY.out]
            exact ⟨hgw6.trans (by repeat (with_reducible first | assumption | exact grA | apply grB | apply grC | apply grD | refine grE ?_ (by omega) _ | refine grF ?_ (by omega) _ _)), rfl⟩
      · have c2 : (1 : Int) ≤ (c5 : Int) := by omega
        have c3 : ¬ (c5 : Int) = 1 := by omega
        have HARG := Lib.hid (SlAt.tail1 HV5.out)
        go_upto_region 5 with (first | (go_at_call 38; (with_reducible refine (HCU.out _).mono ?_); rintro e w1 ⟨rfl, x1, rfl⟩) | (go_at_call 65; go_loud ((with_reducible refine (ftrim_any (HARG.out.grows (show World.grows w5 _ from (by repeat (with_reducible first | assumption | exact grA | apply grB | apply grC | apply grD | refine grE ?_ (by omega) _ | refine grF ?_ (by omega) _ _))) (fun _ _ _ h => h.grows (by repeat (with_reducible first | assumption | exact grA | apply grB | apply grC | apply grD | refine grE ?_ (by omega) _ | refine grF ?_ (by omega) _ _))))).mono ?_); rintro r w6 ⟨v6, rfl, hg6, hv6⟩)))
        have hg56 : w5.grows w6 := World.grows.trans (by repeat (with_reducible first | assumption | exact grA | apply grB | apply grC | apply grD | refine grE ?_ (by omega) _ | refine grF ?_ (by omega) _ _)) hg6
        have HEL6 := Lib.hid (HEL.out.grows hg56)
        have HV6 := Lib.hid hv6
        obtain ⟨a6, c6, rfl, -, -⟩ := hv6.len
        clear hv6 hg6 hk0 hk1 z3
        have hk1 := HEL6.out.cell (j := 1) rfl
        rw [World.cell?_row] at hk1
        have z3 := lt_sz HEL6.out.lt
        have hgw6 := hg.trans hg56
        generalize trimT l = T2 at *
        cases T2 with
        | nil =>
          simp only [List.length_nil] at *
          go_wp2_with fail
          ((try simp only [Exit.inBlock, Exit.then]); refine bodyPost_ret (results_tmp4 rfl _ _ _) rfl ?_)
          rw [HGO.out]
          exact ⟨hgw6.trans (by repeat (with_reducible first | assumption | exact grA | apply grB | apply grC | apply grD | refine grE ?_ (by omega) _ | refine grF ?_ (by omega) _ _)), rfl⟩
        | cons y r =>
          obtain ⟨g6, off6, cs6, rfl, -, -, e6, hy⟩ := HV6.out.elt (i := 0) (x := y) rfl
          obtain ⟨⟨ky, sy, ny, dy, py, qy⟩, ksy⟩ := y
          obtain ⟨tyf, vy, rfl, -⟩ := VOk_open hy
          rw [Nat.zero_mul, Nat.add_zero] at e6
          have hy0 := e6.cell (j := 0) rfl
          rw [World.cell?_row, Nat.add_zero] at hy0
          have z6 := lt_sz e6.lt
          simp only [List.length_cons]
          have m0 : ((r.length : Int) + 1 == 0) = false := by rw [beq_eq_false_iff_ne]; omega
          have m1 : ¬ ((r.length : Int) + 1 = 0) := by omega
          by_cases hky : ky = 18
          · subst hky
            clear hy e6
            have n1' : (1 : Int) ≤ (r.length : Int) + 1 := by omega
            have hb6 := HV6.out.bound
            simp only [List.length_cons] at hb6
            have nn : (0 : Int) < (r.length : Int) + 1 := by omega
            by_cases hc6 : c6 = 1
            · subst hc6
              obtain rfl : r = [] := List.length_eq_zero_iff.1 (by omega)
              have HARG2 := Lib.hid (SlAt_empty w6 S 7 (VOk w6 S) (some ⟨g6, off6, none⟩) 0 (by omega))
              simp only [List.length_nil] at *
              go_upto_region 9 with fail
              refine wp_region_plus_seq (by kernel_rfl) (by kernel_rfl) (fun x0 => ?_)
              repeat (any_goals (first | (refine wpSeqL_free rfl ?_; first | (go_big_quiet_skip; refine wpQuiet_nil ?_) | (go_big_quiet_step (fail); refine wpQuiet_nil ?_) | (refine wpQuiet_step (fun K hK => ?_); go_simp; split <;> (refine hK _ ?_; clear hK K; refine wpQuiet_nil ?_))) | (refine wpSeqL_link rfl (fun K hK => ?_); go_simp; first | first | (refine hK _ _ (by show World.grows _ _; repeat (first | assumption | exact grA | apply grB | apply grC | apply grD)) ?_; clear hK K) | (((go_at_call 65; go_loud ((with_reducible refine (ftrim_any (HARG2.out.grows (show World.grows w6 _ from (by repeat (with_reducible first | assumption | exact grA | apply grB | apply grC | apply grD | refine grE ?_ (by omega) _ | refine grF ?_ (by omega) _ _))) (fun _ _ _ h => h.grows (by repeat (with_reducible first | assumption | exact grA | apply grB | apply grC | apply grD | refine grE ?_ (by omega) _ | refine grF ?_ (by omega) _ _))))).mono ?_); rintro r w7 ⟨v7, rfl, hg7, hv7⟩; (have hg7q : World.grows w6 w7 := World.grows.trans (by repeat (with_reducible first | assumption | exact grA | apply grB | apply grC | apply grD | refine grE ?_ (by omega) _ | refine grF ?_ (by omega) _ _)) hg7)))); refine ⟨_, rfl, hK _ _ (by show World.grows _ _; repeat (first | assumption | exact grA | apply grB | apply grC | apply grD)) ?_⟩; clear hK K) | (split <;> (first | (refine hK _ _ (by show World.grows _ _; repeat (first | assumption | exact grA | apply grB | apply grC | apply grD)) ?_; clear hK K) | (((go_at_call 65; go_loud ((with_reducible refine (ftrim_any (HARG2.out.grows (show World.grows w6 _ from (by repeat (with_reducible first | assumption | exact grA | apply grB | apply grC | apply grD | refine grE ?_ (by omega) _ | refine grF ?_ (by omega) _ _))) (fun _ _ _ h => h.grows (by repeat (with_reducible first | assumption | exact grA | apply grB | apply grC | apply grD | refine grE ?_ (by omega) _ | refine grF ?_ (by omega) _ _))))).mono ?_); rintro r w7 ⟨v7, rfl, hg7, hv7⟩; (have hg7q : World.grows w6 w7 := World.grows.trans (by repeat (with_reducible first | assumption | exact grA | apply grB | apply grC | apply grD | refine grE ?_ (by omega) _ | refine grF ?_ (by omega) _ _)) hg7)))); refine ⟨_, rfl, hK _ _ (by show World.grows _ _; repeat (first | assumption | exact grA | apply grB | apply grC | apply grD)) ?_⟩; clear hK K))))))
              all_goals (refine wpSeqL_end ?_)
              go_wp2_with fail
              ((try simp only [Exit.inBlock, Exit.then]); refine bodyPost_ret (results_tmp4 rfl _ _ _) rfl ?_)
              rw [HGO.out]
              exact ⟨hgw6.trans (hg7q.trans (by repeat (with_reducible first | assumption | exact grA | apply grB | apply grC | apply grD | refine grE ?_ (by omega) _ | refine grF ?_ (by omega) _ _))), _, rfl, VsAt.grows hv7 (by repeat (with_reducible first | assumption | exact grA | apply grB | apply grC | apply grD | refine grE ?_ (by omega) _ | refine grF ?_ (by omega) _ _))⟩
            · have q2 : (1 : Int) ≤ (c6 : Int) := by omega
              have q3 : ¬ (c6 : Int) = 1 := by omega
              have HARG2 := Lib.hid (SlAt.tail1 HV6.out)
              go_upto_region 9 with fail
              refine wp_region_plus_seq (by kernel_rfl) (by kernel_rfl) (fun x0 => ?_)
              repeat (any_goals (first | (refine wpSeqL_free rfl ?_; first | (go_big_quiet_skip; refine wpQuiet_nil ?_) | (go_big_quiet_step (fail); refine wpQuiet_nil ?_) | (refine wpQuiet_step (fun K hK => ?_); go_simp; split <;> (refine hK _ ?_; clear hK K; refine wpQuiet_nil ?_))) | (refine wpSeqL_link rfl (fun K hK => ?_); go_simp; first | first | (refine hK _ _ (by show World.grows _ _; repeat (first | assumption | exact grA | apply grB | apply grC | apply grD)) ?_; clear hK K) | (((go_at_call 65; go_loud ((with_reducible refine (ftrim_any (HARG2.out.grows (show World.grows w6 _ from (by repeat (with_reducible first | assumption | exact grA | apply grB | apply grC | apply grD | refine grE ?_ (by omega) _ | refine grF ?_ (by omega) _ _))) (fun _ _ _ h => h.grows (by repeat (with_reducible first | assumption | exact grA | apply grB | apply grC | apply grD | refine grE ?_ (by omega) _ | refine grF ?_ (by omega) _ _))))).mono ?_); rintro r w7 ⟨v7, rfl, hg7, hv7⟩; (have hg7q : World.grows w6 w7 := World.grows.trans (by repeat (with_reducible first | assumption | exact grA | apply grB | apply grC | apply grD | refine grE ?_ (by omega) _ | refine grF ?_ (by omega) _ _)) hg7)))); refine ⟨_, rfl, hK _ _ (by show World.grows _ _; repeat (first | assumption | exact grA | apply grB | apply grC | apply grD)) ?_⟩; clear hK K) | (split <;> (first | (refine hK _ _ (by show World.grows _ _; repeat (first | assumption | exact grA | apply grB | apply grC | apply grD)) ?_; clear hK K) | (((go_at_call 65; go_loud ((with_reducible refine (ftrim_any (HARG2.out.grows (show World.grows w6 _ from (by repeat (with_reducible first | assumption | exact grA | apply grB | apply grC | apply grD | refine grE ?_ (by omega) _ | refine grF ?_ (by omega) _ _))) (fun _ _ _ h => h.grows (by repeat (with_reducible first | assumption | exact grA | apply grB | apply grC | apply grD | refine grE ?_ (by omega) _ | refine grF ?_ (by omega) _ _))))).mono ?_); rintro r w7 ⟨v7, rfl, hg7, hv7⟩; (have hg7q : World.grows w6 w7 := World.grows.trans (by repeat (with_reducible first | assumption | exact grA | apply grB | apply grC | apply grD | refine grE ?_ (by omega) _ | refine grF ?_ (by omega) _ _)) hg7)))); refine ⟨_, rfl, hK _ _ (by show World.grows _ _; repeat (first | assumption | exact grA | apply grB | apply grC | apply grD)) ?_⟩; clear hK K))))))
              all_goals (refine wpSeqL_end ?_)
              go_wp2_with fail
              ((try simp only [Exit.inBlock, Exit.then]); refine bodyPost_ret (results_tmp4 rfl _ _ _) rfl ?_)
              rw [HGO.out]
              exact ⟨hgw6.trans (hg7q.trans (by repeat (with_reducible first | assumption | exact grA | apply grB | apply grC | apply grD | refine grE ?_ (by omega) _ | refine grF ?_ (by omega) _ _))), _, rfl, VsAt.grows hv7 (by repeat (with_reducible first | assumption | exact grA | apply grB | apply grC | apply grD | refine grE ?_ (by omega) _ | refine grF ?_ (by omega) _ _))⟩
          · have hb : (ky != 18) = true := by simpa using hky
            have hb2 : (ky == 18) = false := by simpa using hky
            have HKY := Lib.hid hky
            clear hy e6 hky
            go_wp2_with fail
            ((try simp only [Exit.inBlock, Exit.then]); refine bodyPost_ret (results_tmp4 rfl _ _ _) rfl ?_)
            rw [HGO.out]
            show UsePost w S (if ky ≠ 18 then none else _) _ _
            rw [if_pos HKY.out]
            exact ⟨hgw6.trans (by repeat (with_reducible first | assumption | exact grA | apply grB | apply grC | apply grD | refine grE ?_ (by omega) _ | refine grF ?_ (by omega) _ _)), rfl⟩
    · have HNO := Lib.hid (namedT_bad (v := .mk ⟨k, s, n1, d, q1, q2⟩ ks) HT.out (by simpa using hok))
      by_cases hkx : kx = 1
      · have hcx : customB sx = false := by
          cases hc : customB sx with
          | false => rfl
          | true => exact absurd ((nameOk_iff _ _).2 ⟨hkx, hc⟩) hok
        subst hkx
        rw [hcx] at HCU
        clear hcx hok
        go_wp2_with ((go_at_call 38; (with_reducible refine (HCU.out _).mono ?_); rintro e w1 ⟨rfl, x1, rfl⟩))
        ((try simp only [Exit.inBlock, Exit.then]); refine bodyPost_ret (results_tmp4 rfl _ _ _) rfl ?_)
        rw [HNO.out]
        exact ⟨hg.trans (by repeat (with_reducible first | assumption | exact grA | apply grB | apply grC | apply grD | refine grE ?_ (by omega) _ | refine grF ?_ (by omega) _ _)), rfl⟩
      · have hb : (kx != 1) = true := by simpa using hkx
        have hb2 : (kx == 1) = false := by simpa using hkx
        clear hok
        go_wp2_with fail
        ((try simp only [Exit.inBlock, Exit.then]); refine bodyPost_ret (results_tmp4 rfl _ _ _) rfl ?_)
        rw [HNO.out]
        exact ⟨hg.trans (by repeat (with_reducible first | assumption | exact grA | apply grB | apply grC | apply grD | refine grE ?_ (by omega) _ | refine grF ?_ (by omega) _ _)), rfl⟩
end Go.Proofs.YthcaphoejplecaaGreatDoor

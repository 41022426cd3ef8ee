/- WALKS over prop, jalousieref14: a use of a custom property. No condition. -/
import Derived.Test.YthcaphoejplecaaGreatDoorVaL
set_option linter.unusedSimpArgs false
set_option linter.unusedVariables false
namespace Go
open Go.RowKit
theorem useT_eq (t : Tk) (ks : List Vt) : useT (.mk t ks) = (decide (t.k = 2) && ((lowS t.s).toList == [118, 97, 114])) := by
  show (decide (t.k = 2) && decide (lowB t.s.data.toList = [118, 97, 114])) = _
  rw [ByteArray.toList_eq, lowS_list]
  congr 1
  rw [Bool.eq_iff_iff, decide_eq_true_iff, beq_iff_eq]
theorem low_var : lowS ⟨#[118, 97, 114]⟩ = ⟨#[118, 97, 114]⟩ := rfl
end Go
namespace Go.Proofs.YthcaphoejplecaaGreatDoor
open Go.RowKit
set_option maxRecDepth 100000 in
theorem puse_any (t : Tk) (ht : t.Wf) (a : Option Addr) (n c : Nat) (ks : List Vt) (w : World) : Calls Tryz.prog 69 #[vtV t (.slice a n c)] w (Gives w (.bool (useT (.mk t ks)))) := by
  rw [useT_eq]
  obtain ⟨k, s, n1, d, b1, b2⟩ := t
  have HL := Lib.hid (fun (W : World) => rsmall_any s ht.2.1 W)
  by_cases h : k = 2
  · subst h
    generalize lowS s = q at *
    go_enter Tryz.func69, Tryz.ntmps69
    go_wp2_with ((go_at_call 99; (with_reducible refine (HL.out _).mono ?_); rintro e w1 ⟨rfl, x1, rfl⟩))
    go_ret
    exact ⟨by simp, (by repeat (with_reducible first | assumption | exact grA | apply grB | apply grC | apply grD | refine grE ?_ (by omega) _ | refine grF ?_ (by omega) _ _))⟩
  · have hb : (k == 2) = false := by simpa using h
    have hd : decide (k = 2) = false := by simpa using h
    simp only [hd, Bool.false_and]
    clear h hd
    go_enter Tryz.func69, Tryz.ntmps69
    go_wp2_with ((go_at_call 99; (with_reducible refine (HL.out _).mono ?_); rintro e w1 ⟨rfl, x1, rfl⟩))
    go_ret
    exact ⟨rfl, (by repeat (with_reducible first | assumption | exact grA | apply grB | apply grC | apply grD | refine grE ?_ (by omega) _ | refine grF ?_ (by omega) _ _))⟩
set_option maxRecDepth 100000 in
theorem flike_any (s : ByteArray) (hs : s.size ≤ maxLen) (w : World) : Calls Tryz.prog 64 #[.string s, .string ⟨#[118, 97, 114]⟩] w (Gives w (.bool ((lowS s).toList == [118, 97, 114]))) := by
  have HL := Lib.hid (fun (W : World) => flower_any s hs W)
  have HV := Lib.hid (fun (W : World) => flower_any ⟨#[118, 97, 114]⟩ (by decide) W)
  rw [low_var] at HV
  generalize lowS s = q at *
  go_enter Tryz.func64, Tryz.ntmps64
  go_wp2_with (first | (go_at_call 96; (with_reducible refine (HL.out _).mono ?_); rintro e w1 ⟨rfl, x1, rfl⟩) | (go_at_call 96; (with_reducible refine (HV.out _).mono ?_); rintro e w1 ⟨rfl, x1, rfl⟩))
  go_ret
  exact ⟨rfl, (by repeat (with_reducible first | assumption | exact grA | apply grB | apply grC | apply grD | refine grE ?_ (by omega) _ | refine grF ?_ (by omega) _ _))⟩
set_option maxRecDepth 100000 in
theorem fuse_any (t : Tk) (ht : t.Wf) (a : Option Addr) (n c : Nat) (ks : List Vt) (w : World) : Calls Tryz.prog 45 #[vtV t (.slice a n c)] w (Gives w (.bool (useT (.mk t ks)))) := by
  rw [useT_eq]
  obtain ⟨k, s, n1, d, b1, b2⟩ := t
  have HL := Lib.hid (fun (W : World) => flike_any s ht.2.1 W)
  by_cases h : k = 2
  · subst h
    generalize lowS s = q at *
    go_enter Tryz.func45, Tryz.ntmps45
    go_wp2_with ((go_at_call 64; (with_reducible refine (HL.out _).mono ?_); rintro e w1 ⟨rfl, x1, rfl⟩))
    go_ret
    exact ⟨by simp, (by repeat (with_reducible first | assumption | exact grA | apply grB | apply grC | apply grD | refine grE ?_ (by omega) _ | refine grF ?_ (by omega) _ _))⟩
  · have hb : (k == 2) = false := by simpa using h
    have hd : decide (k = 2) = false := by simpa using h
    simp only [hd, Bool.false_and]
    clear h hd
    go_enter Tryz.func45, Tryz.ntmps45
    go_wp2_with ((go_at_call 64; (with_reducible refine (HL.out _).mono ?_); rintro e w1 ⟨rfl, x1, rfl⟩))
    go_ret
    exact ⟨rfl, (by repeat (with_reducible first | assumption | exact grA | apply grB | apply grC | apply grD | refine grE ?_ (by omega) _ | refine grF ?_ (by omega) _ _))⟩
set_option maxRecDepth 100000 in
theorem pidx0_any (u : Value) (w : World) : Calls Tryz.prog 98 #[.slice none 0 0, u] w (Gives w (.int .i64 (-1))) := by
  go_enter Tryz.func98, Tryz.ntmps98
  go_wp2_with fail
  go_loopg [8] 0 (fun gn v8 wj => v8 = .int .i64 0 ∧ w.grows wj)
  case atStart => exact ⟨by go_num, (by repeat (with_reducible first | assumption | exact grA | apply grB | apply grC | apply grD | refine grE ?_ (by omega) _ | refine grF ?_ (by omega) _ _))⟩
  case round =>
    obtain ⟨rfl, hgj⟩ := hrel
    go_wp2_with fail
    go_ret
    exact ⟨rfl, hgj.trans (by repeat (with_reducible first | assumption | exact grA | apply grB | apply grC | apply grD | refine grE ?_ (by omega) _ | refine grF ?_ (by omega) _ _))⟩
set_option maxRecDepth 100000 in
theorem pvars0_any (w : World) : Calls Tryz.prog 51 #[.slice none 0 0] w (Gives w (.bool false)) := by
  have HI := Lib.hid (fun (u : Value) (W : World) => pidx0_any u W)
  have HC : Hid (∀ (u : Value) (W : World), Calls Tryz.prog 67 #[.slice none 0 0, u] W (Gives W (.bool false))) := Lib.hid fun u W => by
    go_enter Tryz.func67, Tryz.ntmps67
    go_wp2_with ((go_at_call 98; (with_reducible refine (HI.out _ _).mono ?_); rintro e w1 ⟨rfl, x1, rfl⟩))
    go_ret
    exact ⟨rfl, (by repeat (with_reducible first | assumption | exact grA | apply grB | apply grC | apply grD | refine grE ?_ (by omega) _ | refine grF ?_ (by omega) _ _))⟩
  go_enter Tryz.func51, Tryz.ntmps51
  go_wp2_with ((go_at_call 67; (with_reducible refine (HC.out _ _).mono ?_); rintro e w1 ⟨rfl, x1, rfl⟩))
  go_ret
  exact ⟨rfl, (by repeat (with_reducible first | assumption | exact grA | apply grB | apply grC | apply grD | refine grE ?_ (by omega) _ | refine grF ?_ (by omega) _ _))⟩
/-- the closure at a value that holds nothing -/
theorem pvarsC_any (t : Tk) (ht : t.Wf) (w : World) : Calls Tryz.prog 68 #[vtV t (.slice none 0 0)] w (Gives w (.bool (useT (.mk t [])))) := by
  have HU := Lib.hid (fun (W : World) => puse_any t ht none 0 0 [] W)
  have H0 := Lib.hid (fun (W : World) => pvars0_any W)
  obtain ⟨k, s, n1, d, b1, b2⟩ := t
  cases hb : useT (.mk ⟨k, s, n1, d, b1, b2⟩ []) with
  | true =>
    rw [hb] at HU
    go_enter Tryz.func68, Tryz.ntmps68
    go_wp2_with (first | (go_at_call 69; (with_reducible refine (HU.out _).mono ?_); rintro e w1 ⟨rfl, x1, rfl⟩) | (go_at_call 51; (with_reducible refine (H0.out _).mono ?_); rintro e w1 ⟨rfl, x1, rfl⟩))
    go_ret
    exact ⟨rfl, (by repeat (with_reducible first | assumption | exact grA | apply grB | apply grC | apply grD | refine grE ?_ (by omega) _ | refine grF ?_ (by omega) _ _))⟩
  | false =>
    rw [hb] at HU
    go_enter Tryz.func68, Tryz.ntmps68
    go_wp2_with (first | (go_at_call 69; (with_reducible refine (HU.out _).mono ?_); rintro e w1 ⟨rfl, x1, rfl⟩) | (go_at_call 51; (with_reducible refine (H0.out _).mono ?_); rintro e w1 ⟨rfl, x1, rfl⟩))
    go_ret
    exact ⟨rfl, (by repeat (with_reducible first | assumption | exact grA | apply grB | apply grC | apply grD | refine grE ?_ (by omega) _ | refine grF ?_ (by omega) _ _))⟩
/-- the index of a use in one value that holds nothing -/
theorem pidx1_any (t : Tk) (ht : t.Wf) (g : Nat) (w : World) (h : w.row g = some (.cells #[.int .i64 t.k, .string t.s, .int .i64 t.n, .int .i64 t.d, .bool t.w, .bool t.i, .slice none 0 0] 70)) :
    Calls Tryz.prog 98 #[.slice (some ⟨g, 0, none⟩) 1 1, .func (.func 68) #[] #[]] w (Gives w (.int .i64 (if useT (.mk t []) = true then 0 else -1))) := by
  have HC := Lib.hid (fun (W : World) => pvarsC_any t ht W)
  have hlt := (row_sz' h).1
  obtain ⟨k, s, n1, d, b1, b2⟩ := t
  have HROW := Lib.hid h
  clear h
  cases hb : useT (.mk ⟨k, s, n1, d, b1, b2⟩ []) with
  | true =>
    rw [hb] at HC
    go_enter Tryz.func98, Tryz.ntmps98
    go_wp2_with fail
    go_loopg [8] 1 (fun gn v8 wj => ∃ i : Nat, Hid (gn + i = 1) ∧ v8 = .int .i64 i ∧ w.grows wj ∧ Hid (i = 0))
    case atStart => exact ⟨0, Lib.hid rfl, by go_num, (by repeat (with_reducible first | assumption | exact grA | apply grB | apply grC | apply grD | refine grE ?_ (by omega) _ | refine grF ?_ (by omega) _ _)), Lib.hid rfl⟩
    case round =>
      obtain ⟨i, HQ, rfl, hgj, HZ⟩ := hrel
      obtain rfl := HZ.out
      have hrj := (hgj.row_eq hlt).trans HROW.out
      have z := row_sz' hrj
      go_wp2_with ((go_at_call 68; (with_reducible refine (HC.out _).mono ?_); rintro e w1 ⟨rfl, x1, rfl⟩))
      go_ret
      exact ⟨rfl, hgj.trans (by repeat (with_reducible first | assumption | exact grA | apply grB | apply grC | apply grD | refine grE ?_ (by omega) _ | refine grF ?_ (by omega) _ _))⟩
  | false =>
    rw [hb] at HC
    go_enter Tryz.func98, Tryz.ntmps98
    go_wp2_with fail
    go_loopg [8] 1 (fun gn v8 wj => ∃ i : Nat, Hid (gn + i = 1) ∧ v8 = .int .i64 i ∧ w.grows wj)
    case atStart => exact ⟨0, Lib.hid rfl, by go_num, (by repeat (with_reducible first | assumption | exact grA | apply grB | apply grC | apply grD | refine grE ?_ (by omega) _ | refine grF ?_ (by omega) _ _))⟩
    case round =>
      obtain ⟨i, HQ, rfl, hgj⟩ := hrel
      have hi := HQ.out
      by_cases hz : i = 0
      · subst hz
        have hrj := (hgj.row_eq hlt).trans HROW.out
        have z := row_sz' hrj
        go_wp2_with ((go_at_call 68; (with_reducible refine (HC.out _).mono ?_); rintro e w1 ⟨rfl, x1, rfl⟩))
        go_roundg 0
        case measure => omega
        case rel => exact ⟨1, Lib.hid rfl, by go_num, hgj.trans (by repeat (with_reducible first | assumption | exact grA | apply grB | apply grC | apply grD | refine grE ?_ (by omega) _ | refine grF ?_ (by omega) _ _))⟩
      · obtain rfl : i = 1 := by omega
        go_wp2_with fail
        go_ret
        exact ⟨rfl, hgj.trans (by repeat (with_reducible first | assumption | exact grA | apply grB | apply grC | apply grD | refine grE ?_ (by omega) _ | refine grF ?_ (by omega) _ _))⟩
/-- is one value that holds nothing a use? -/
theorem pvars1_any (t : Tk) (ht : t.Wf) (g : Nat) (w : World) (h : w.row g = some (.cells #[.int .i64 t.k, .string t.s, .int .i64 t.n, .int .i64 t.d, .bool t.w, .bool t.i, .slice none 0 0] 70)) :
    Calls Tryz.prog 51 #[.slice (some ⟨g, 0, none⟩) 1 1] w (Gives w (.bool (useT (.mk t [])))) := by
  have hlt := (row_sz' h).1
  have HI := Lib.hid (fun (W : World) (hg : w.grows W) => pidx1_any t ht g W ((hg.row_eq hlt).trans h))
  have HC : Hid (∀ (W : World), w.grows W → Calls Tryz.prog 67 #[.slice (some ⟨g, 0, none⟩) 1 1, .func (.func 68) #[] #[]] W (Gives W (.bool (useT (.mk t []))))) := Lib.hid fun W hg => by
    cases hb : useT (.mk t []) with
    | true =>
      simp only [hb, if_true] at HI
      go_enter Tryz.func67, Tryz.ntmps67
      go_wp2_with ((go_at_call 98; (with_reducible refine (HI.out _ (hg.trans (by repeat (with_reducible first | assumption | exact grA | apply grB | apply grC | apply grD | refine grE ?_ (by omega) _ | refine grF ?_ (by omega) _ _)))).mono ?_); rintro e w1 ⟨rfl, x1, rfl⟩))
      go_ret
      exact ⟨rfl, (by repeat (with_reducible first | assumption | exact grA | apply grB | apply grC | apply grD | refine grE ?_ (by omega) _ | refine grF ?_ (by omega) _ _))⟩
    | false =>
      simp only [hb] at HI
      go_enter Tryz.func67, Tryz.ntmps67
      go_wp2_with ((go_at_call 98; (with_reducible refine (HI.out _ (hg.trans (by repeat (with_reducible first | assumption | exact grA | apply grB | apply grC | apply grD | refine grE ?_ (by omega) _ | refine grF ?_ (by omega) _ _)))).mono ?_); rintro e w1 ⟨rfl, x1, rfl⟩))
      go_ret
      exact ⟨rfl, (by repeat (with_reducible first | assumption | exact grA | apply grB | apply grC | apply grD | refine grE ?_ (by omega) _ | refine grF ?_ (by omega) _ _))⟩
  clear h
  generalize useT (.mk t []) = b at *
  go_enter Tryz.func51, Tryz.ntmps51
  go_wp2_with ((go_at_call 67; (with_reducible refine (HC.out _ (by repeat (with_reducible first | assumption | exact grA | apply grB | apply grC | apply grD | refine grE ?_ (by omega) _ | refine grF ?_ (by omega) _ _))).mono ?_); rintro e w1 ⟨rfl, x1, rfl⟩))
  go_ret
  exact ⟨rfl, (by repeat (with_reducible first | assumption | exact grA | apply grB | apply grC | apply grD | refine grE ?_ (by omega) _ | refine grF ?_ (by omega) _ _))⟩
end Go.Proofs.YthcaphoejplecaaGreatDoor

/- Texts of the walk, one after the other; what each proves stands ahead of it. -/
import Derived.Test.YtdbddnkjiehaiaaGreatLaysD
import Derived.Test.YtdbddnkjiehaiaaGreatMb
import Derived.Test.YtdbddnkjiehaiaaGreatMd
set_option linter.unusedSimpArgs false
set_option linter.unusedVariables false
/- WALKS over dom: the comparison of place. No condition. -/
namespace Go.Proofs.YtdbddnkjiehaiaaGreat
open Go.Maps Go.RowKit

set_option maxRecDepth 100000 in
set_option maxHeartbeats 4000000 in
theorem place1_any (x : ByteArray × ByteArray) (s : ByteArray) (w : World) : Calls Tryz.prog 66 #[.agg #[.string x.1, .string x.2], .string s] w (Gives w (.int .i64 (Lib.compareBytes x.1.data.toList s.data.toList))) := by
  have HC := Lib.hid (fun W => Tryz.strings_Compare x.1 s W)
  go_enter Tryz.func66, Tryz.ntmps66
  go_wp2_with (go_at_call 67; go_loud ((with_reducible refine (HC.out _).mono ?_); rintro e w1 ⟨rfl, rfl⟩))
  go_ret
  exact ⟨rfl, (by repeat (with_reducible first | assumption | exact grA | apply grB | apply grC | apply grD | refine grE ?_ (by omega) _ | refine grF ?_ (by omega) _ _))⟩
end Go.Proofs.YtdbddnkjiehaiaaGreat

/- WALK: slices.BinarySearchFunc over attributes. No condition but that they rise. -/
namespace Go.Proofs.YtdbddnkjiehaiaaGreat
open Go.Maps Go.RowKit
/-- a name is among them -/
def hasA (l : List (ByteArray × ByteArray)) (s : ByteArray) : Bool := match l[posA l s]? with | some x => decide (x.1 = s) | none => false

set_option maxRecDepth 100000 in
set_option maxHeartbeats 4000000 in
theorem bsearch_any (w : World) (a0 : Option Addr) (c0 : Nat) (l : List (ByteArray × ByteArray)) (s : ByteArray) (h : SlAt w (fun _ => True) 2 AtR (.slice a0 l.length c0) l) (hu : UpA l) (h16 : l.length ≤ 1000) :
    Calls Tryz.prog 65 #[.slice a0 l.length c0, .string s, .func (.func 66) #[] #[]] w (Gives w (.tuple #[.int .i64 (posA l s), .bool (hasA l s)])) := by
  have HP := Lib.hid (fun x W => place1_any x s W)
  have HS := Lib.hid h; have HU := Lib.hid hu
  have hpl := posA_le l s
  clear h hu
  generalize hb : hasA l s = b
  have HB := Lib.hid hb
  clear hb
  go_enter Tryz.func65, Tryz.ntmps65
  go_wp2_with fail
  go_loopg [9, 10] l.length (fun gn v9 v10 wj => ∃ i j : Nat, Hid (gn + i = j ∧ i ≤ j ∧ j ≤ l.length ∧ i ≤ posA l s ∧ posA l s ≤ j) ∧ v9 = .int .i64 i ∧ v10 = .int .i64 j ∧ w.grows wj)
  case atStart => exact ⟨0, l.length, Lib.hid ⟨by omega, by omega, by omega, by omega, by omega⟩, by go_num, by go_num, (by repeat (with_reducible first | assumption | exact grA | apply grB | apply grC | apply grD | refine grE ?_ (by omega) _ | refine grF ?_ (by omega) _ _))⟩
  case round =>
    obtain ⟨i, j, HQ, rfl, rfl, hgj⟩ := hrel
    obtain ⟨j1, j2, j3, j4, j5⟩ := HQ.out
    by_cases hlt : i < j
    · have i1 : (i : Int) < (j : Int) := by omega
      go_upto_region 5 with fail
      generalize hmi : ((i : Int) + (j : Int)) / 2 = mi
      obtain ⟨m, rfl⟩ : ∃ m : Nat, mi = (m : Int) := ⟨(i + j) / 2, by omega⟩
      have m1 : i ≤ m := by omega
      have m2 : m < j := by omega
      have mL : (m : Int) < (l.length : Int) := by omega
      clear hmi
      obtain ⟨_, _, e4, _, _, b5⟩ := HS.out
      injection e4 with e4 e5 e6
      clear e5
      subst e4; subst e6
      rcases b5 with h0 | ⟨g, off, rfl, _, h4⟩
      · rw [h0] at j3; simp at j3; omega
      have hml : m < l.length := by omega
      obtain ⟨cs, _, el, hR⟩ := h4 m _ (List.getElem?_eq_getElem hml)
      have hlp := less_pos HU.out s m _ (List.getElem?_eq_getElem hml)
      generalize l[m] = x at hlp hR
      cases hR
      have zg := lt_sz (el.grows hgj).lt
      obtain ⟨q1, q2⟩ := el.grows hgj
      rw [show [Value.string x.1, Value.string x.2].length = 2 from rfl] at q1 q2
      have HX := Lib.hid (HP.out x)
      have hcl := cmpB_lt x.1.data.toList s.data.toList
      clear h4 el HS
      by_cases hless : Lib.compareBytes x.1.data.toList s.data.toList < 0
      · have HL := Lib.hid (hlp.1 (decide_eq_true (hcl.1 hless)))
        clear hcl hlp
        go_wp2_with (go_at_call 66; go_loud ((with_reducible refine (HX.out _).mono ?_); rintro r w1 ⟨rfl, hg1⟩))
        have hL := HL.out
        go_roundg (j - (m + 1))
        case measure => omega
        case rel => exact ⟨m + 1, j, Lib.hid ⟨by omega, by omega, by omega, by omega, by omega⟩, by go_num, by go_num, hgj.trans hg1⟩
      · have HL := Lib.hid (show ¬ m < posA l s from fun hh => hless (hcl.2 (of_decide_eq_true (hlp.2 hh))))
        clear hcl hlp
        go_wp2_with (go_at_call 66; go_loud ((with_reducible refine (HX.out _).mono ?_); rintro r w1 ⟨rfl, hg1⟩))
        have hL := HL.out
        go_roundg (m - i)
        case measure => omega
        case rel => exact ⟨i, m, Lib.hid ⟨by omega, by omega, by omega, by omega, by omega⟩, by go_num, by go_num, hgj.trans hg1⟩
    · have i1 : ¬ (i : Int) < (j : Int) := by omega
      obtain rfl : i = posA l s := by omega
      have HI := Lib.hid hpl
      clear hpl j1 j2 j3 j4 j5
      by_cases hpl : posA l s < l.length
      · have mL : (posA l s : Int) < (l.length : Int) := by omega
        obtain ⟨_, _, e4, _, _, b5⟩ := HS.out
        injection e4 with e4 e5 e6
        clear e5
        subst e4; subst e6
        rcases b5 with h0 | ⟨g, off, rfl, _, h4⟩
        · rw [h0] at hpl; simp at hpl
        obtain ⟨cs, _, el, hR⟩ := h4 _ _ (List.getElem?_eq_getElem hpl)
        have hgx := List.getElem?_eq_getElem hpl
        generalize l[posA l s] = x at hgx hR
        cases hR
        have zg := lt_sz (el.grows hgj).lt
        obtain ⟨q1, q2⟩ := el.grows hgj
        rw [show [Value.string x.1, Value.string x.2].length = 2 from rfl] at q1 q2
        have HX := Lib.hid (HP.out x)
        have HG := Lib.hid hgx
        have hbx : b = decide (Lib.compareBytes x.1.data.toList s.data.toList = 0) := by
          have hb := HB.out
          unfold hasA at hb
          rw [hgx] at hb
          rw [← hb]
          refine decide_eq_decide.2 ?_
          rw [cmpB_eq]
          exact ⟨fun e => by rw [e], fun e => by cases x with | mk a v => cases a; cases s; simp_all [Array.ext_iff, Array.toList_inj]⟩
        subst hbx
        clear h4 el HS hgx HG HB
        generalize posA l s = pp at *
        go_wp2_with (go_at_call 66; go_loud ((with_reducible refine (HX.out _).mono ?_); rintro r w1 ⟨rfl, hg1⟩))
        go_ret2
        exact ⟨by simp; first | rfl | (rw [Bool.eq_iff_iff]; simp), hgj.trans hg1⟩
      · have mL : ¬ (posA l s : Int) < (l.length : Int) := by omega
        have hbx : b = false := by
          rw [← HB.out]; unfold hasA; rw [List.getElem?_eq_none (by omega)]
        subst hbx
        clear HB
        generalize posA l s = pp at *
        go_wp2_with fail
        go_ret2
        exact ⟨by simp, hgj⟩
end Go.Proofs.YtdbddnkjiehaiaaGreat

/- WALK: dom.place. No condition but that the element's row stands and its attributes rise. -/
namespace Go.Proofs.YtdbddnkjiehaiaaGreat
open Go.Maps Go.RowKit

set_option maxRecDepth 100000 in
set_option maxHeartbeats 4000000 in
theorem place_any (w : World) (g : Nat) (v0 v1 v2 v3 v5 v6 v7 v8 v9 v10 : Value) (aa : Option Addr) (ac : Nat) (l : List (ByteArray × ByteArray)) (s : ByteArray) (hr : w.row g = some (.cells #[v0, v1, v2, v3, .slice aa l.length ac, v5, v6, v7, v8, v9, v10] 49))
    (h : SlAt w (fun _ => True) 2 AtR (.slice aa l.length ac) l) (hu : UpA l) (h16 : l.length ≤ 1000) :
    Calls Tryz.prog 53 #[.pointer (some ⟨g, 0, none⟩), .string s] w (Gives w (.tuple #[.int .i64 (posA l s), .bool (hasA l s)])) := by
  have zr := row_sz' hr
  have HC := Lib.hid (bsearch_any w aa ac l s h hu h16)
  clear h hu
  generalize hasA l s = b at *
  go_enter Tryz.func53, Tryz.ntmps53
  go_wp2_with (go_at_call 65; go_loud ((with_reducible refine HC.out.mono ?_); rintro r w1 ⟨rfl, hg1⟩))
  go_ret2
  exact ⟨rfl, hg1⟩
end Go.Proofs.YtdbddnkjiehaiaaGreat

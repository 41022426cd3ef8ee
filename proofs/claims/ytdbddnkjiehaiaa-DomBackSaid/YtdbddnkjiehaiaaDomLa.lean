/- WALKS over dom and jalousieref8: Attr. No condition but that a tree stands in memory, its attributes by rising names. -/
import Derived.Test.YtdbddnkjiehaiaaDomPlW
set_option linter.unusedSimpArgs false
set_option linter.unusedVariables false
namespace Go
open Go.RowKit
def Dm.attr (M : Dm) (id : Int) (n : ByteArray) : ByteArray × Bool :=
  match M.at id with
  | none => (ByteArray.empty, false)
  | some e => match e.at'.find? (fun x => decide (x.1 = n)) with
    | none => (ByteArray.empty, false)
    | some x => (x.2, true)
theorem find_up {n : ByteArray} : ∀ {l : List (ByteArray × ByteArray)}, UpA l → ∀ {i : Nat} {x : ByteArray × ByteArray}, l[i]? = some x → x.1 = n → l.find? (fun x => decide (x.1 = n)) = some x
  | [], _, _, _, h, _ => by simp at h
  | a :: t, hu, i, x, h, hx => by
    unfold UpA at hu
    rw [List.pairwise_cons] at hu
    cases i with
    | zero =>
      simp only [List.getElem?_cons_zero, Option.some.injEq] at h
      subst h
      simp [hx]
    | succ i =>
      rw [List.getElem?_cons_succ] at h
      have h1 := hu.1 x (List.mem_of_getElem? h)
      have ha : ¬ a.1 = n := fun e => by rw [e, hx] at h1; exact absurd h1 (List.lt_irrefl _)
      rw [List.find?_cons_of_neg (by simpa using ha)]
      exact find_up hu.2 h hx
end Go
namespace Go.Proofs.Ytdbddnkjiehaiaa
open Go.Maps Go.RowKit Go.Sort
set_option maxRecDepth 100000 in
set_option maxHeartbeats 8000000 in
theorem domAttr_any (w : World) (L : Ly) (M : Dm) (h : TreeAt w L M) (hu : M.Ups) (id : Int) (n : ByteArray) (hi : I64 id) :
    Calls Try.prog 14 #[.pointer (some ⟨L.t, 0, none⟩), .int .i64 id, .string n] w (Gives w (.tuple #[.string (M.attr id n).1, .bool (M.attr id n).2])) := by
  have hx := h.head
  have zx := row_sz' hx
  have hlk := h.look id hi
  unfold mvOf at hlk
  cases hat : M.at id with
  | none =>
    rw [hat] at hlk
    simp only at hlk
    have e : M.attr id n = (ByteArray.empty, false) := by unfold Dm.attr; rw [hat]
    rw [e]
    clear h e hat
    go_enter Try.func14, Try.ntmps14
    go_wp2_with fail
    go_ret2
    exact ⟨rfl, World.grows.refl⟩
  | some e =>
    rw [hat] at hlk
    simp only at hlk
    obtain ⟨he, rfl⟩ := findE_some hat
    obtain ⟨hrow, hks, hats⟩ := h.els e he
    obtain ⟨ka, kc, ek⟩ := own_slice hks
    obtain ⟨aa, ac, ea⟩ := own_slice hats
    unfold elC at hrow
    rw [ek, ea] at hrow
    rw [ea] at hats
    have zr := row_sz' hrow
    have hew := h.elWf e he
    have h16 := hew.2.2.2.2.2.2.1
    have hup := hu e he
    have HPL := Lib.hid (place_any w (L.bl e.id) _ _ _ _ _ _ _ _ _ _ aa ac e.at' n hrow (at_slat hats) hup (by omega))
    have hall := hasA_all hup n
    cases hh : hasA e.at' n with
    | false =>
      rw [hh] at HPL hall
      have q : M.attr e.id n = (ByteArray.empty, false) := by
        unfold Dm.attr; rw [hat]; simp only
        rw [List.find?_eq_none.2 fun x hx => by
          have h1 : (e.at'.all fun x => decide (x.1 ≠ n)) = true := by rw [hall]; rfl
          have := List.all_eq_true.1 h1 x hx
          simpa using this]
      rw [q]
      clear h he hu q hat hup hew hks hats hall hh
      go_enter Try.func14, Try.ntmps14
      go_wp2_with (go_at_call 49; (with_reducible refine (HPL.out).mono ?_); rintro e w1 ⟨rfl, x1, rfl⟩)
      go_ret2
      exact ⟨rfl, (by repeat (with_reducible first | assumption | exact grA | apply grB | apply grC | apply grD | refine grE ?_ (by omega) _ | refine grF ?_ (by omega) _ _))⟩
    | true =>
      rw [hh] at HPL hall
      obtain ⟨x, hx0, hxn⟩ := hasA_at hh
      have q : M.attr e.id n = (x.2, true) := by
        unfold Dm.attr; rw [hat]; simp only
        rw [find_up hup hx0 hxn]
      rw [q]
      have hpl : posA e.at' n < e.at'.length := (List.getElem?_eq_some_iff.1 hx0).1
      rcases (ats_get (at_slat hats)).2 with h0 | ⟨p3, o3, rfl, e3⟩
      · rw [h0] at hpl; simp at hpl
      have k3 := e3 _ _ hx0
      have HK3 := Lib.hid k3
      have hpi : ((posA e.at' n : Nat) : Int) < (e.at'.length : Int) := by omega
      clear h he hu q hat hup hew hks hats hall hh e3 k3 hx0
      generalize posA e.at' n = pp at *
      go_enter Try.func14, Try.ntmps14
      go_upto_region 7 with (go_at_call 49; (with_reducible refine (HPL.out).mono ?_); rintro e w1 ⟨rfl, x1, rfl⟩)
      have hgw : w.grows (w.plus x1) := (by repeat (with_reducible first | assumption | exact grA | apply grB | apply grC | apply grD | refine grE ?_ (by omega) _ | refine grF ?_ (by omega) _ _))
      generalize w.plus x1 = w1 at *
      have hrow1 := (hgw.row_eq zr.1).trans hrow
      have zr1 := row_sz' hrow1
      have k1 := HK3.out.grows hgw
      have z1 := lt_sz k1.lt
      have c1 := k1.cell (j := 1) rfl
      rw [World.cell?_row] at c1
      go_wp2_with fail
      go_ret2
      exact ⟨rfl, hgw⟩

set_option maxRecDepth 100000 in
set_option maxHeartbeats 8000000 in
theorem refAttr_any (w : World) (t : Nat) (v : Value) (M : Dm) (h : RefR w t v M) (hG : M.Good) (hw : ∀ e ∈ M.els, e.Wf) (id : Int) (n : ByteArray) : Calls Try.prog 15 #[.pointer (some ⟨t, 0, none⟩), .int .i64 id, .string n] w (Gives w (.tuple #[.string (M.attr id n).1, .bool (M.attr id n).2])) := by
  have HAT := Lib.hid (fun (W : World) (hW : w.grows W) (id : Int) => refAt_any W t v M (h.grows hW) hG.wf.few id)
  cases hat : M.at id with
  | none =>
    have hp : posE M.els id = -1 := posE_none (findE_none hat)
    have hbx : M.attr id n = (ByteArray.empty, false) := by unfold Dm.attr; rw [hat]
    rw [hbx]
    clear h hbx hG hat
    go_enter Try.func15, Try.ntmps15
    go_wp2_with (go_at_call 17; go_loud ((with_reducible refine (HAT.out _ (by repeat (with_reducible first | assumption | exact grA | apply grB | apply grC | apply grD | refine grE ?_ (by omega) _ | refine grF ?_ (by omega) _ _)) _).mono ?_); rw [hp]; rintro r w1 ⟨rfl, hg1⟩))
    go_ret2
    exact ⟨rfl, hg1⟩
  | some e =>
    obtain ⟨he, rfl⟩ := findE_some hat
    obtain ⟨k, hp, hkl, hke⟩ := posE_at hG.wf.up he
    have hfew := hG.wf.few
    have hkI : (k : Int) < (M.els.length : Int) := by omega
    have h16 := (hw e he).2.2.2.2.2.2.1
    obtain ⟨a0, c0, rfl, _⟩ := h.els.len
    rcases (els_get h.els).2 with h0 | ⟨g, o, rfl, e1⟩
    · rw [h0] at hkl; simp at hkl
    obtain ⟨cs, l1, k1, ka, aa, kc, ac, rfl, _, hats⟩ := e1 k _ hke
    have HA := Lib.hid (ats_get hats).2
    have HR := Lib.hid h
    have K1 := Lib.hid k1
    have HANS := Lib.hid (show M.attr e.id n = match e.at'.find? (fun x => decide (x.1 = n)) with | none => (ByteArray.empty, false) | some x => (x.2, true) by unfold Dm.attr; rw [hat])
    clear h hG hat hats e1 k1 he hw
    go_enter Try.func15, Try.ntmps15
    go_upto_region 3 with (go_at_call 17; go_loud ((with_reducible refine (HAT.out _ (by repeat (with_reducible first | assumption | exact grA | apply grB | apply grC | apply grD | refine grE ?_ (by omega) _ | refine grF ?_ (by omega) _ _)) _).mono ?_); rw [hp]; rintro r w1 ⟨rfl, hg1⟩))
    have hx1 := (HR.out.grows hg1).head
    have zx1 := row_sz' hx1
    have k2 := K1.out.grows hg1
    have z2 := lt_sz k2.lt
    have c2 := k2.cell (j := 4) rfl
    rw [World.cell?_row] at c2
    go_upto_region 4 with fail
    go_loopg [25] e.at'.length (fun gn v25 wj => ∃ i : Nat, Hid (gn + i = e.at'.length ∧ i ≤ e.at'.length) ∧ v25 = .int .i64 i ∧ w.grows wj ∧ Hid (e.at'.find? (fun x => decide (x.1 = n)) = (e.at'.drop i).find? fun x => decide (x.1 = n)))
    case atStart => exact ⟨0, Lib.hid ⟨by simp, Nat.zero_le _⟩, by go_num, hg1, Lib.hid rfl⟩
    case round =>
      obtain ⟨i, HQ, rfl, hgj, HF⟩ := hrel
      obtain ⟨j1, j2⟩ := HQ.out
      by_cases hlt : i < e.at'.length
      · have i1 : (i : Int) < (e.at'.length : Int) := by omega
        rcases HA.out with h0 | ⟨p3, o3, rfl, e3⟩
        · rw [h0] at hlt; simp at hlt
        have hgt := List.getElem?_eq_getElem hlt
        have k3 := (e3 i _ hgt).grows hgj
        have HD := Lib.hid (show e.at'.drop i = e.at'[i] :: e.at'.drop (i + 1) from List.drop_eq_getElem_cons hlt)
        generalize e.at'[i] = x at *
        have z3 := lt_sz k3.lt
        obtain ⟨u1, u2⟩ := k3
        rw [show [Value.string x.1, Value.string x.2].length = 2 from rfl] at u1 u2
        clear e3 hgt hx1 zx1 c2 k2 z2
        by_cases hx : x.1 = n
        · have HX := Lib.hid hx
          have hxb : (x.1.toList == n.toList) = true := by rw [hx]; simp
          have hxl : x.1.toList = n.toList := by rw [hx]
          clear hx
          go_wp2_with fail
          go_ret2
          have ha := HANS.out
          rw [HF.out, HD.out, List.find?_cons_of_pos (by simpa using HX.out)] at ha
          rw [ha]
          exact ⟨rfl, (by repeat (with_reducible first | assumption | exact grA | apply grB | apply grC | apply grD | refine grE ?_ (by omega) _ | refine grF ?_ (by omega) _ _))⟩
        · have HX := Lib.hid hx
          have hxn : ¬ (x.1.toList = n.toList) := fun h => hx (by
            obtain ⟨⟨a⟩, v⟩ := x
            obtain ⟨b⟩ := n
            have h' : a.toList = b.toList := by simpa [ByteArray.toList_eq] using h
            rw [Array.toList_inj.1 h'])
          have hxb : (x.1.toList == n.toList) = false := by simpa using hxn
          clear hx
          go_wp2_with fail
          go_roundg (e.at'.length - (i + 1))
          case measure => omega
          case rel => exact ⟨i + 1, Lib.hid ⟨by omega, by omega⟩, by go_num, (by repeat (with_reducible first | assumption | exact grA | apply grB | apply grC | apply grD | refine grE ?_ (by omega) _ | refine grF ?_ (by omega) _ _)), Lib.hid (by rw [HF.out, HD.out, List.find?_cons_of_neg (by simpa using HX.out)])⟩
      · have i1 : ¬ (i : Int) < (e.at'.length : Int) := by omega
        obtain rfl : i = e.at'.length := by omega
        go_wp2_with fail
        go_ret2
        have ha := HANS.out
        rw [HF.out, List.drop_length] at ha
        rw [ha]
        exact ⟨rfl, hgj⟩
end Go.Proofs.Ytdbddnkjiehaiaa

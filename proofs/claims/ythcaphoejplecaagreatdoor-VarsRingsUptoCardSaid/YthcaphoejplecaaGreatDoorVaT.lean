/- WALKS over jalousieref5: values without blanks at both ends. No condition. -/
import Derived.Test.YthcaphoejplecaaGreatDoorVaO
set_option linter.unusedSimpArgs false
set_option linter.unusedVariables false
namespace Go
open Go.RowKit
theorem SlAt.mid {α : Type} {w : World} {S : Nat → Prop} {n : Nat} {R : α → List Value → Prop} {g off len cap i j : Nat} {l : List α} (h : SlAt w S n R (.slice (some ⟨g, off, none⟩) len cap) l) (hij : i ≤ j) (hj : j ≤ l.length) :
    SlAt w S n R (.slice (some ⟨g, off + i * n, none⟩) (j - i) (cap - i)) ((l.drop i).take (j - i)) := by
  obtain ⟨a', c', h1, h2, h3, h4⟩ := h
  injection h1 with e1 e2 e3
  subst e1; subst e3
  have hl : ((l.drop i).take (j - i)).length = j - i := by simp; omega
  refine ⟨_, _, by rw [hl], by rw [hl]; omega, by omega, ?_⟩
  rcases h4 with h4 | ⟨g', off', h5, h6, h7⟩
  · left; simp [h4]
  · injection h5 with h5
    injection h5 with e1 e2
    subst e1; subst e2
    refine .inr ⟨g, _, rfl, h6, fun k y hy => ?_⟩
    have hk := (List.getElem?_eq_some_iff.1 hy).1
    rw [hl] at hk
    rw [List.getElem?_take_of_lt hk, List.getElem?_drop] at hy
    obtain ⟨cs, k1, k2, k3⟩ := h7 (i + k) y hy
    exact ⟨cs, k1, by rw [show off + i * n + k * n = off + (i + k) * n by rw [Nat.add_mul]; omega]; exact k2, k3⟩
theorem front_drop {l : List Vt} {i : Nat} {x : Vt} (h : l[i]? = some x) : l.drop i = x :: l.drop (i + 1) := by
  obtain ⟨hl, rfl⟩ := List.getElem?_eq_some_iff.1 h
  rw [List.drop_eq_getElem_cons hl]
theorem back_take {l : List Vt} {i j : Nat} {x : Vt} (hij : i ≤ j) (h : l[j]? = some x) : (l.drop i).take (j + 1 - i) = (l.drop i).take (j - i) ++ [x] := by
  rw [show j + 1 - i = (j - i) + 1 by omega, List.take_add_one, List.getElem?_drop, show i + (j - i) = j by omega, h]; rfl
end Go
namespace Go.Proofs.YthcaphoejplecaaGreatDoor
open Go.RowKit
theorem rspace_any2 (t : Tk) (a : Option Addr) (n c : Nat) (w : World) : Calls Tryz.prog 97 #[vtV t (.slice a n c)] w (Gives w (.bool (decide (t.k = 13)))) := fspace_any t a n c w
set_option maxRecDepth 100000 in
set_option maxHeartbeats 4000000 in
theorem ftrim_any {w : World} {S : Nat → Prop} {v : Value} {l : List Vt} (h : VsAt w S v l) :
    Calls Tryz.prog 65 #[v] w fun e w' => ∃ r, e = .returned r ∧ w.grows w' ∧ VsAt w' S r (trimT l) := by
  obtain ⟨a, cap, rfl, hcap, hcap2⟩ := SlAt.len h
  have H0 := Lib.hid h
  clear h
  rw [trimT_eq]
  go_enter Tryz.func65, Tryz.ntmps65
  go_wp2_with fail
  go_loopg [3] l.length (fun gn v3 wj => ∃ i : Nat, Hid (gn + i = l.length ∧ i ≤ l.length) ∧ v3 = .int .i64 i ∧ w.grows wj ∧ Hid (frontT l = frontT (l.drop i)))
  case atStart => exact ⟨0, Lib.hid ⟨by simp, Nat.zero_le _⟩, by go_num, (by repeat (with_reducible first | assumption | exact grA | apply grB | apply grC | apply grD | refine grE ?_ (by omega) _ | refine grF ?_ (by omega) _ _)), Lib.hid rfl⟩
  case round =>
    obtain ⟨i, HQ, rfl, hgj, HV⟩ := hrel
    obtain ⟨p1, p2⟩ := HQ.out
    by_cases hlt : i < l.length
    · have iI : (i : Int) < (l.length : Int) := by omega
      have hgt : l[i]? = some l[i] := List.getElem?_eq_getElem hlt
      obtain ⟨g, off, cs, rfl, hS, -, k1, hv⟩ := H0.out.elt hgt
      generalize l[i] = x at *
      obtain ⟨t, ks⟩ := x
      obtain ⟨twf, vk, rfl, hks⟩ := VOk_open hv
      obtain ⟨aK, cK, rfl, -, -⟩ := hks.len
      have HSP := Lib.hid (fun (W : World) => rspace_any2 t aK ks.length cK W)
      have HT := Lib.hid (front_drop hgt)
      have HX := Lib.hid (show ∀ (hk : t.k = 13), _ from fun hk => frontT_cons (x := .mk t ks) (l := l.drop (i + 1)) hk)
      have HY := Lib.hid (show ∀ (hk : t.k ≠ 13), _ from fun hk => frontT_stop (x := .mk t ks) (l := l.drop (i + 1)) hk)
      obtain ⟨k, s, n1, d, q1, q2⟩ := t
      have k2 := k1.grows hgj
      have z3 := lt_sz k2.lt
      obtain ⟨u1, u2⟩ := k2
      replace u1 : segOk (off + i * 7) 7 (wr.row g) = true := u1
      replace u2 : segV (off + i * 7) 7 (wr.row g) = .agg #[.int .i64 k, .string s, .int .i64 n1, .int .i64 d, .bool q1, .bool q2, .slice aK ks.length cK] := u2
      have i1 : (0 : Int) ≤ (i : Int) := by omega
      have iw : IntKind.i64.wrap ((i : Int) + 1) = (i : Int) + 1 := by rw [IntKind.wrap_i64]; omega
      clear hgt k1 hv
      by_cases hk : k = 13
      · have hb : decide (k = 13) = true := by simpa using hk
        have HN := Lib.hid (HX.out hk)
        simp only [hb] at HSP
        clear hk hb
        go_wp2_with ((go_at_call 97; (with_reducible refine (HSP.out _).mono ?_); rintro e w1 ⟨rfl, x1, rfl⟩))
        go_roundg (l.length - (i + 1))
        case measure => omega
        case rel => exact ⟨i + 1, Lib.hid ⟨by omega, by omega⟩, by go_num, hgj.trans (by repeat (with_reducible first | assumption | exact grA | apply grB | apply grC | apply grD | refine grE ?_ (by omega) _ | refine grF ?_ (by omega) _ _)), Lib.hid (by rw [HV.out, HT.out, HN.out])⟩
      · have hb : decide (k = 13) = false := by simpa using hk
        have HN := Lib.hid (HY.out hk)
        have HFR := Lib.hid (show frontT l = l.drop i by rw [HV.out, HT.out, HN.out])
        simp only [hb] at HSP
        clear hk hb
        go_wp2_with ((go_at_call 97; (with_reducible refine (HSP.out _).mono ?_); rintro e w1 ⟨rfl, x1, rfl⟩))
        have hgx := hgj.trans (show World.grows wr (wr.plus x1) from (by repeat (with_reducible first | assumption | exact grA | apply grB | apply grC | apply grD | refine grE ?_ (by omega) _ | refine grF ?_ (by omega) _ _)))
        clear HSP HX HY HV HQ hgj u1 u2 z3
        generalize wr.plus x1 = w5 at *
        go_loopg [4] (l.length - i) (fun gn v4 wj => ∃ j : Nat, Hid (gn = j - i) ∧ Hid (i ≤ j ∧ j ≤ l.length) ∧ v4 = .int .i64 j ∧ w.grows wj ∧ Hid (backT (frontT l) = backT ((l.drop i).take (j - i))))
        case atStart => exact ⟨l.length, Lib.hid rfl, Lib.hid ⟨by omega, by omega⟩, rfl, hgx, Lib.hid (by rw [HFR.out, List.take_of_length_le (by simp)])⟩
        case round =>
          obtain ⟨j, HQ, HJ, rfl, hgj, HV⟩ := hrel
          obtain ⟨p1, p2⟩ := HJ.out
          by_cases hlt : i < j
          · obtain ⟨j, rfl⟩ : ∃ q, j = q + 1 := ⟨j - 1, by omega⟩
            have hjl : j < l.length := by omega
            have hgt : l[j]? = some l[j] := List.getElem?_eq_getElem hjl
            obtain ⟨g', off', cs, ea, hS, -, k1, hv⟩ := H0.out.elt hgt
            injection ea with ea
            injection ea with ea1 ea2
            subst ea1; subst ea2
            generalize l[j] = x at *
            obtain ⟨t, ks⟩ := x
            obtain ⟨twf, vk, rfl, hks⟩ := VOk_open hv
            obtain ⟨aK, cK, rfl, -, -⟩ := hks.len
            have HSP := Lib.hid (fun (W : World) => rspace_any2 t aK ks.length cK W)
            have HT := Lib.hid (back_take (i := i) (by omega) hgt)
            have HX := Lib.hid (show ∀ (hk : t.k = 13), _ from fun hk => backT_snoc (x := .mk t ks) (l := (l.drop i).take (j - i)) hk)
            have HY := Lib.hid (show ∀ (hk : t.k ≠ 13), _ from fun hk => backT_stop (x := .mk t ks) (l := (l.drop i).take (j - i)) hk)
            obtain ⟨k, s, n1, d, q1, q2⟩ := t
            have k2 := k1.grows hgj
            have z3 := lt_sz k2.lt
            obtain ⟨u1, u2⟩ := k2
            replace u1 : segOk (off + j * 7) 7 (wr.row g) = true := u1
            replace u2 : segV (off + j * 7) 7 (wr.row g) = .agg #[.int .i64 k, .string s, .int .i64 n1, .int .i64 d, .bool q1, .bool q2, .slice aK ks.length cK] := u2
            have i0 : (i : Int) < (j : Int) + 1 := by omega
            have i1 : (0 : Int) ≤ (j : Int) := by omega
            have i2 : (j : Int) < (l.length : Int) := by omega
            have iw : IntKind.i64.wrap (j : Int) = (j : Int) := by rw [IntKind.wrap_i64]; omega
            clear hgt k1 hv
            by_cases hk : k = 13
            · have hb : decide (k = 13) = true := by simpa using hk
              have HN := Lib.hid (HX.out hk)
              simp only [hb] at HSP
              clear hk hb
              go_wp2_with ((go_at_call 97; (with_reducible refine (HSP.out _).mono ?_); rintro e w1 ⟨rfl, x1, rfl⟩))
              go_roundg (j - i)
              case measure => have := HQ.out; omega
              case rel => exact ⟨j, Lib.hid rfl, Lib.hid ⟨by omega, by omega⟩, by go_num, hgj.trans (by repeat (with_reducible first | assumption | exact grA | apply grB | apply grC | apply grD | refine grE ?_ (by omega) _ | refine grF ?_ (by omega) _ _)), Lib.hid (by rw [HV.out, HT.out, HN.out])⟩
            · have hb : decide (k = 13) = false := by simpa using hk
              have HN := Lib.hid (HY.out hk)
              simp only [hb] at HSP
              clear hk hb
              have c1 : (i : Int) ≤ (j : Int) + 1 := by omega
              have c2 : (j : Int) + 1 ≤ (cap : Int) := by omega
              have c3 : (0 : Int) ≤ (i : Int) := by omega
              have c4 : ¬ cap = i := by omega
              have c5 : ¬ (cap : Int) = (i : Int) := by omega
              go_wp2_with ((go_at_call 97; (with_reducible refine (HSP.out _).mono ?_); rintro e w1 ⟨rfl, x1, rfl⟩))
              go_ret
              refine ⟨_, rfl, hgj.trans (by repeat (with_reducible first | assumption | exact grA | apply grB | apply grC | apply grD | refine grE ?_ (by omega) _ | refine grF ?_ (by omega) _ _)), ?_⟩
              rw [HV.out, HT.out, HN.out, ← HT.out]
              have := (H0.out.mid (i := i) (j := j + 1) (by omega) (by omega)).keep (fun _ hS hl => ⟨(hgj.trans (show World.grows wr (wr.plus x1) from (by repeat (with_reducible first | assumption | exact grA | apply grB | apply grC | apply grD | refine grE ?_ (by omega) _ | refine grF ?_ (by omega) _ _)))).row_eq hl, hS⟩) (fun _ _ _ h => h.grows (hgj.trans (show World.grows wr (wr.plus x1) from (by repeat (with_reducible first | assumption | exact grA | apply grB | apply grC | apply grD | refine grE ?_ (by omega) _ | refine grF ?_ (by omega) _ _)))))
              exact this
          · obtain rfl : i = j := by omega
            have i0 : ¬ (i : Int) < (i : Int) := by omega
            have c1 : (i : Int) ≤ (cap : Int) := by omega
            have c3 : (0 : Int) ≤ (i : Int) := by omega
            have c4 : ¬ cap = i := by omega
            have c5 : ¬ (cap : Int) = (i : Int) := by omega
            clear HQ
            go_wp2_with fail
            go_ret
            refine ⟨_, rfl, hgj.trans (by repeat (with_reducible first | assumption | exact grA | apply grB | apply grC | apply grD | refine grE ?_ (by omega) _ | refine grF ?_ (by omega) _ _)), ?_⟩
            rw [HV.out, Nat.sub_self]
            exact SlAt_empty _ _ _ _ _ _ (by omega)
    · have iI : ¬ (i : Int) < (l.length : Int) := by omega
      obtain rfl : i = l.length := by omega
      have HE := Lib.hid (show backT (frontT l) = [] by rw [HV.out, List.drop_length]; rfl)
      have c1 : (l.length : Int) ≤ (cap : Int) := by omega
      clear HV HQ
      go_wp2_with fail
      go_loopg [4] 0 (fun gn v4 wj => v4 = .int .i64 l.length ∧ w.grows wj)
      case atStart => exact ⟨rfl, hgj.trans (by repeat (with_reducible first | assumption | exact grA | apply grB | apply grC | apply grD | refine grE ?_ (by omega) _ | refine grF ?_ (by omega) _ _))⟩
      case round =>
        obtain ⟨rfl, hgk⟩ := hrel
        by_cases c4 : cap = l.length
        · have c5 : (cap : Int) = (l.length : Int) := by omega
          clear hcap c1
          subst c4
          go_wp2_with fail
          go_ret
          refine ⟨_, rfl, hgk.trans (by repeat (with_reducible first | assumption | exact grA | apply grB | apply grC | apply grD | refine grE ?_ (by omega) _ | refine grF ?_ (by omega) _ _)), ?_⟩
          rw [HE.out]
          exact SlAt_empty _ _ _ _ _ _ (by omega)
        · have c5 : ¬ (cap : Int) = (l.length : Int) := by omega
          cases a with
          | none =>
            go_wp2_with fail
            go_ret
            refine ⟨_, rfl, hgk.trans (by repeat (with_reducible first | assumption | exact grA | apply grB | apply grC | apply grD | refine grE ?_ (by omega) _ | refine grF ?_ (by omega) _ _)), ?_⟩
            rw [HE.out]
            exact SlAt_empty _ _ _ _ _ _ (by omega)
          | some ad =>
            go_wp2_with fail
            go_ret
            refine ⟨_, rfl, hgk.trans (by repeat (with_reducible first | assumption | exact grA | apply grB | apply grC | apply grD | refine grE ?_ (by omega) _ | refine grF ?_ (by omega) _ _)), ?_⟩
            rw [HE.out]
            exact SlAt_empty _ _ _ _ _ _ (by omega)
end Go.Proofs.YthcaphoejplecaaGreatDoor

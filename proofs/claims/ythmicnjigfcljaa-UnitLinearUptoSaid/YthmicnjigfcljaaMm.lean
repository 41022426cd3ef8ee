/- Texts of the walk, one after the other; what each proves stands ahead of it. -/
import Derived.Test.YthmicnjigfcljaaMg
import Derived.Test.YthmicnjigfcljaaMl
import Derived.Test.YthmicnjigfcljaaPlusNP
import Derived.Test.YthmicnjigfcljaaPlusPN
set_option linter.unusedSimpArgs false
set_option linter.unusedVariables false
/- WALKS over rat: the sum of two fractions. No condition but that both may be and are not over. -/
namespace Go.Proofs.Ythmicnjigfcljaa
open Go.RowKit

theorem plus_any (a b c d : Int) (w : World) (wa : I64 a) (wb : I64 b) (wc : I64 c) (wd : I64 d) (h1 : sureB a b = true) (h2 : sureB c d = true) :
    Calls Try.prog 103 #[.agg #[.int .i64 a, .int .i64 b], .agg #[.int .i64 c, .int .i64 d]] w (Gives w (ratV (addQ (a, b) (c, d)))) := by
  by_cases ha : a < 0
  · by_cases hc : c < 0
    · exact plusNN_any a b c d w wa wb wc wd ha hc h1 h2
    · exact plusNP_any a b c d w wa wb wc wd ha hc h1 h2
  · by_cases hc : c < 0
    · exact plusPN_any a b c d w wa wb wc wd ha hc h1 h2
    · exact plusPP_any a b c d w wa wb wc wd ha hc h1 h2

end Go.Proofs.Ythmicnjigfcljaa

/- WALKS over rat: sums of lists, the least and the greatest, what is turned. No condition but that numbers are of their kinds. -/
namespace Go
open Go.RowKit
def cmpC (p q : Int × Int) : Int := if sureB p.1 p.2 && sureB q.1 q.2 then cmpI p.1 p.2 q.1 q.2 else 0
/-- the one that no other one is ahead of, one behind the other -/
def firstQ (sign : Int) : Bool → Int × Int → List (Int × Int) → Int × Int
  | _, out, [] => out
  | st, out, r :: l => if sureP r then firstQ sign true (if st = false ∨ cmpC r out = sign then r else out) l else (0, 0)
theorem firstQ_true (sign : Int) : ∀ (l : List (Int × Int)) (out : Int × Int), sureP out = true → firstQ sign true out l = if l.all sureP then l.foldl (pickQ sign) out else (0, 0)
  | [], out, _ => by simp [firstQ]
  | r :: l, out, h => by
    show (if sureP r = true then firstQ sign true (if true = false ∨ cmpC r out = sign then r else out) l else (0, 0)) = _
    by_cases hr : sureP r = true
    · have e : (if true = false ∨ cmpC r out = sign then r else out) = pickQ sign out r := by
        unfold cmpC pickQ
        have h1 : sureB r.1 r.2 = true := hr
        have h2 : sureB out.1 out.2 = true := h
        simp only [h1, h2, Bool.and_self, if_true, reduceCtorEq, false_or]
      have hp : sureP (pickQ sign out r) = true := by unfold pickQ; split <;> assumption
      rw [if_pos hr, e, firstQ_true sign l _ hp, List.all_cons, hr, Bool.true_and]; rfl
    · rw [if_neg hr]; simp [hr]
theorem firstQ_best (sign : Int) (l : List (Int × Int)) : firstQ sign false (0, 0) l = bestQ sign l := by
  cases l with
  | nil => rfl
  | cons p l =>
    show (if sureP p = true then firstQ sign true (if false = false ∨ cmpC p (0, 0) = sign then p else (0, 0)) l else (0, 0)) = (if (p :: l).all sureP then l.foldl (pickQ sign) p else (0, 0))
    by_cases h : sureP p = true
    · rw [if_pos h, if_pos (.inl rfl), firstQ_true sign l p h, List.all_cons, h, Bool.true_and]
    · rw [if_neg h]; simp [h]
end Go
namespace Go.Proofs.Ythmicnjigfcljaa
open Go.RowKit

theorem plusF_any (p q : Int × Int) (w : World) (hp : I64p p) (hq : I64p q) (h1 : sureP p = true) (h2 : sureP q = true) : Calls Try.prog 103 #[ratV p, ratV q] w (Gives w (ratV (addQ p q))) :=
  plus_any p.1 p.2 q.1 q.2 w hp.1 hp.2 hq.1 hq.2 h1 h2

set_option maxRecDepth 100000 in
theorem ratAdd_any (v : Value) (l : List (Int × Int)) (w : World) (hr : RatsAt w v l) : Calls Try.prog 76 #[v] w (Gives w (ratV (foldQ (0, 1) addQ l))) := by
  have h1 := fun W (hg : w.grows W) => folded_plus addQ addQ_bd plusF_any (0, 1) v l W (hr.grows hg)
  generalize foldQ (0, 1) addQ l = R at *
  obtain ⟨R1, R2⟩ := R
  have H1 := Lib.hid h1; clear h1 hr
  go_enter Try.func76, Try.ntmps76
  go_wp2_with (first | (go_at_call 102; (with_reducible refine (H1.out _ (by repeat (with_reducible first | assumption | exact grA | apply grB | apply grC | apply grD | refine grE ?_ (by omega) _ | refine grF ?_ (by omega) _ _))).mono ?_); rintro e w1 ⟨rfl, x1, rfl⟩) | ((with_reducible show bodyPost _ _ _ _ _ _); exact ret_23 rfl rfl (by simp [go_sem]) rfl ⟨by simp [go_sem], (by repeat (first | exact grA | apply grB | apply grC | apply grD))⟩))

set_option maxRecDepth 100000 in
theorem ratNeg_any (a b : Int) (w : World) (wa : I64 a) (wb : I64 b) : Calls Try.prog 86 #[.agg #[.int .i64 a, .int .i64 b]] w (Gives w (ratV (negQ (a, b)))) := by
  have s1 := fun w => sure_any a b w wa.1 wa.2 wb.1 wb.2
  unfold negQ sureP
  simp only
  cases t1 : sureB a b with
  | false =>
    rw [t1] at s1
    have S1 := Lib.hid s1; clear s1 t1
    simp only [Bool.false_eq_true, if_false]
    go_enter Try.func86, Try.ntmps86
    go_wp2_with (first | (go_at_call 109; (with_reducible refine (S1.out _).mono ?_); rintro e w1 ⟨rfl, x1, rfl⟩) | ((with_reducible show bodyPost _ _ _ _ _ _); exact ret_23 rfl rfl (by simp [go_sem]) rfl ⟨by simp [go_sem], (by repeat (first | exact grA | apply grB | apply grC | apply grD))⟩))
  | true =>
    rw [t1] at s1
    have hy := (sureB_yes t1).2
    have b1 : -9223372036854775807 ≤ a := by have := wa.1; omega
    have b2 := wa.2
    have S1 := Lib.hid s1; clear s1 t1 wa wb hy
    simp only [if_true]
    go_enter Try.func86, Try.ntmps86
    go_wp2_with (first | (go_at_call 109; (with_reducible refine (S1.out _).mono ?_); rintro e w1 ⟨rfl, x1, rfl⟩) | ((with_reducible show bodyPost _ _ _ _ _ _); exact ret_23 rfl rfl (by simp [go_sem]) rfl ⟨by simp [go_sem], (by repeat (first | exact grA | apply grB | apply grC | apply grD))⟩))

set_option maxRecDepth 100000 in
set_option maxHeartbeats 4000000 in
theorem first_any (sign : Int) (v : Value) (l : List (Int × Int)) (w : World) (hr : RatsAt w v l) : Calls Try.prog 110 #[.int .i64 sign, v] w (Gives w (ratV (bestQ sign l))) := by
  rw [← firstQ_best]
  obtain ⟨a, cap, rfl, hlc, hc, hi, hr⟩ := hr
  have HI := Lib.hid hi; have HR := Lib.hid hr; clear hi hr
  generalize hR : firstQ sign false (0, 0) l = R at *
  have HRR := Lib.hid hR; clear hR
  obtain ⟨R1, R2⟩ := R
  go_enter Try.func110, Try.ntmps110
  go_wp2_with fail
  go_loopw [12] (fun i wr => ∃ (k : Nat) (o1 o2 : Int), k ≤ l.length ∧ i = .int .i64 k ∧ Hid (I64p (o1, o2)) ∧ Hid (firstQ sign (decide (k ≠ 0)) (o1, o2) (l.drop k) = (R1, R2)) ∧ w.grows wr ∧ wr.row w.heap.size = some (.cells #[.int .i64 0, .int .i64 0] 23) ∧ wr.row (w.heap.size + 1) = some (.cells #[.int .i64 o1, .int .i64 o2] 23)) (fun i _ => l.length - (intOf i).toNat)
  case atStart => exact ⟨0, 0, 0, Nat.zero_le _, rfl, ⟨by unfold I64; omega, by unfold I64; omega⟩, HRR.out, (by repeat (with_reducible first | assumption | exact grA | apply grB | apply grC | apply grD | refine grE ?_ (by omega) _ | refine grF ?_ (by omega) _ _)), (by simp [go_sem]), (by simp [go_sem])⟩
  case round =>
    obtain ⟨k, o1, o2, hk, rfl, HO1, HG, hg, hy, hx⟩ := hrel
    have z1 := row_sz' hx; have z2 := row_sz' hy
    by_cases hlt : k < l.length
    · rcases HR.out with h | ⟨g, off, rfl, hcell⟩
      · rw [h] at hlt; cases hlt
      have hd : l.drop k = l[k] :: l.drop (k + 1) := List.drop_eq_getElem_cons hlt
      have hcl := (hcell k l[k] (by simp [hlt])).grows hg
      have zr := lt_sz hcl.lt
      have e3 : segOk (off + k * 2) 2 (wr.row g) = true := hcl.1
      have e4 : segV (off + k * 2) 2 (wr.row g) = ratV l[k] := hcl.2
      have hq := HI.out l[k] (List.getElem_mem _)
      have s2 := fun w => sure_any l[k].1 l[k].2 w hq.1.1 hq.1.2 hq.2.1 hq.2.2
      change ∀ w, Calls _ _ _ w (Gives w (.bool (sureP l[k]))) at s2
      have hG := HG.out
      rw [hd] at hG
      change (if sureP l[k] = true then firstQ sign true (if decide (k ≠ 0) = false ∨ cmpC l[k] (o1, o2) = sign then l[k] else (o1, o2)) (l.drop (k + 1)) else (0, 0)) = (R1, R2) at hG
      have c1 := fun w => ratCmp_any l[k].1 l[k].2 o1 o2 w hq.1 hq.2 HO1.out.1 HO1.out.2
      change ∀ w, Calls _ _ _ w (Gives w (.tuple #[.int .i64 (cmpC l[k] (o1, o2)), .bool (sureB l[k].1 l[k].2 && sureB o1 o2)])) at c1
      generalize cmpC l[k] (o1, o2) = C at *
      generalize (sureB l[k].1 l[k].2 && sureB o1 o2) = CB at *
      generalize l[k] = r at *
      have HRI := Lib.hid hq
      clear hd hcl hq HG hcell
      cases c2 : sureP r with
      | false =>
        rw [c2] at s2 hG
        obtain ⟨rfl, rfl⟩ := Prod.mk.inj hG.symm
        obtain ⟨r1, r2⟩ := r
        have S2 := Lib.hid s2; clear s2 hG c2 c1
        go_wp2_with (first | (go_at_call 109; (with_reducible refine (S2.out _).mono ?_); rintro e w1 ⟨rfl, x1, rfl⟩) | ((with_reducible show bodyPost _ _ _ _ _ _); exact ret_23 rfl rfl (by simp [go_sem, hx, hy, z1, z2]) rfl ⟨by simp [go_sem, hx, hy, z1, z2], (by repeat (with_reducible first | assumption | exact grA | apply grB | apply grC | apply grD | refine grE ?_ (by omega) _ | refine grF ?_ (by omega) _ _))⟩))
      | true =>
        rw [c2] at s2; rw [if_pos c2] at hG
        obtain ⟨r1, r2⟩ := r
        have S2 := Lib.hid s2; have C1 := Lib.hid c1; clear s2 c1 c2
        by_cases hk0 : k = 0
        · subst hk0
          have hG' : firstQ sign true (r1, r2) (l.drop 1) = (R1, R2) := hG
          have HG' := Lib.hid hG'; clear hG hG'
          simp only [Nat.zero_mul, Nat.add_zero] at e3 e4
          go_wp2_with (first | (go_at_call 109; (with_reducible refine (S2.out _).mono ?_); rintro e w1 ⟨rfl, x1, rfl⟩) | (go_at_call 125; (with_reducible refine (C1.out _).mono ?_); rintro e w1 ⟨rfl, x1, rfl⟩))
          go_roundw
          case rel => exact ⟨1, r1, r2, by omega, by go_num, HRI.out, HG'.out, (by repeat (with_reducible first | assumption | exact grA | apply grB | apply grC | apply grD | refine grE ?_ (by omega) _ | refine grF ?_ (by omega) _ _)), (by simp [go_sem, hx, hy, z1, z2]), (by simp [go_sem, hx, hy, z1, z2])⟩
          case measure => simp [intOf]; omega
        · have hkb : (k == 0) = false := by simpa using hk0
          by_cases hC : C = sign
          · have hG' : firstQ sign (decide (k + 1 ≠ 0)) (r1, r2) (l.drop (k + 1)) = (R1, R2) := by rw [if_pos (.inr hC)] at hG; simpa using hG
            have HG' := Lib.hid hG'; have HK := Lib.hid hk0; clear hG hG' hk0
            subst hC
            go_wp2_with (first | (go_at_call 109; (with_reducible refine (S2.out _).mono ?_); rintro e w1 ⟨rfl, x1, rfl⟩) | (go_at_call 125; (with_reducible refine (C1.out _).mono ?_); rintro e w1 ⟨rfl, x1, rfl⟩))
            go_roundw
            case rel => exact ⟨k + 1, r1, r2, by omega, by go_num, HRI.out, HG'.out, (by repeat (with_reducible first | assumption | exact grA | apply grB | apply grC | apply grD | refine grE ?_ (by omega) _ | refine grF ?_ (by omega) _ _)), (by simp [go_sem, hx, hy, z1, z2]), (by simp [go_sem, hx, hy, z1, z2])⟩
            case measure => simp [intOf]; omega
          · have hCb : (C == sign) = false := by simpa using hC
            have hG' : firstQ sign (decide (k + 1 ≠ 0)) (o1, o2) (l.drop (k + 1)) = (R1, R2) := by rw [if_neg (by simp [hk0, hC])] at hG; simpa using hG
            have HG' := Lib.hid hG'; have HK := Lib.hid hk0; clear hG hG' hk0 hC
            go_wp2_with (first | (go_at_call 109; (with_reducible refine (S2.out _).mono ?_); rintro e w1 ⟨rfl, x1, rfl⟩) | (go_at_call 125; (with_reducible refine (C1.out _).mono ?_); rintro e w1 ⟨rfl, x1, rfl⟩))
            go_roundw
            case rel => exact ⟨k + 1, o1, o2, by omega, by go_num, HO1.out, HG'.out, (by repeat (with_reducible first | assumption | exact grA | apply grB | apply grC | apply grD | refine grE ?_ (by omega) _ | refine grF ?_ (by omega) _ _)), (by simp [go_sem, hx, hy, z1, z2]), (by simp [go_sem, hx, hy, z1, z2])⟩
            case measure => simp [intOf]; omega
    · have hkl : k = l.length := by omega
      have eR : (R1, R2) = (o1, o2) := by rw [← HG.out, hkl, List.drop_length]; rfl
      obtain ⟨rfl, rfl⟩ := Prod.mk.inj eR
      subst hkl
      clear eR HG
      go_wp2_with (first | ((with_reducible show bodyPost _ _ _ _ _ _); exact ret_23 rfl rfl (by simp [go_sem, hx, hy, z1, z2]) rfl ⟨by simp [go_sem, hx, hy, z1, z2], (by repeat (with_reducible first | assumption | exact grA | apply grB | apply grC | apply grD | refine grE ?_ (by omega) _ | refine grF ?_ (by omega) _ _))⟩))

set_option maxRecDepth 100000 in
theorem ratLeast_any (v : Value) (l : List (Int × Int)) (w : World) (hr : RatsAt w v l) : Calls Try.prog 88 #[v] w (Gives w (ratV (bestQ (-1) l))) := by
  have h1 := fun W (hg : w.grows W) => first_any (-1) v l W (hr.grows hg)
  generalize bestQ (-1) l = R at *
  obtain ⟨R1, R2⟩ := R
  have H1 := Lib.hid h1; clear h1 hr
  go_enter Try.func88, Try.ntmps88
  go_wp2_with (first | (go_at_call 110; (with_reducible refine (H1.out _ (by repeat (with_reducible first | assumption | exact grA | apply grB | apply grC | apply grD | refine grE ?_ (by omega) _ | refine grF ?_ (by omega) _ _))).mono ?_); rintro e w1 ⟨rfl, x1, rfl⟩) | ((with_reducible show bodyPost _ _ _ _ _ _); exact ret_23 rfl rfl (by simp [go_sem]) rfl ⟨by simp [go_sem], (by repeat (first | exact grA | apply grB | apply grC | apply grD))⟩))

set_option maxRecDepth 100000 in
theorem ratMost_any (v : Value) (l : List (Int × Int)) (w : World) (hr : RatsAt w v l) : Calls Try.prog 89 #[v] w (Gives w (ratV (bestQ 1 l))) := by
  have h1 := fun W (hg : w.grows W) => first_any 1 v l W (hr.grows hg)
  generalize bestQ 1 l = R at *
  obtain ⟨R1, R2⟩ := R
  have H1 := Lib.hid h1; clear h1 hr
  go_enter Try.func89, Try.ntmps89
  go_wp2_with (first | (go_at_call 110; (with_reducible refine (H1.out _ (by repeat (with_reducible first | assumption | exact grA | apply grB | apply grC | apply grD | refine grE ?_ (by omega) _ | refine grF ?_ (by omega) _ _))).mono ?_); rintro e w1 ⟨rfl, x1, rfl⟩) | ((with_reducible show bodyPost _ _ _ _ _ _); exact ret_23 rfl rfl (by simp [go_sem]) rfl ⟨by simp [go_sem], (by repeat (first | exact grA | apply grB | apply grC | apply grD))⟩))

end Go.Proofs.Ythmicnjigfcljaa

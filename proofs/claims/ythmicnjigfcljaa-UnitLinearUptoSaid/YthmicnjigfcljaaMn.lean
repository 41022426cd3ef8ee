/- Texts of the walk, one after the other; what each proves stands ahead of it. -/
import Derived.Test.YthmicnjigfcljaaMm
import Derived.Test.YthmicnjigfcljaaRefAdd
set_option linter.unusedSimpArgs false
set_option linter.unusedVariables false
/- WALKS over jalousieref1: sums and products of lists, the least and the greatest. No condition but that numbers are of their kinds. -/
namespace Go
open Go.RowKit
def refGo (op : Int × Int → Int × Int → Int × Int) : Bool → Int × Int → List (Int × Int) → Int × Int
  | false, out, l => refFold out op l
  | true, out, l => l.foldl op out
theorem cleanQ_bd {p : Int × Int} (h : I64p p) : I64p (cleanQ p) := by unfold cleanQ; split; exact h; simp [I64p, I64]
/-- the reference's way to the least and the greatest -/
def bgo (way : Int) (b : Int × Int) : List (Int × Int) → Int × Int
  | [] => b
  | r :: l => if sureP r && sureP b then bgo way (pickQ way b r) l else (0, 0)
theorem bgo_all (way : Int) : ∀ (l : List (Int × Int)) (b : Int × Int), sureP b = true → bgo way b l = if l.all sureP then l.foldl (pickQ way) b else (0, 0)
  | [], b, _ => rfl
  | r :: l, b, h => by
    show (if (sureP r && sureP b) = true then bgo way (pickQ way b r) l else (0, 0)) = _
    rw [h, Bool.and_true, List.all_cons]
    by_cases hr : sureP r = true
    · have hp : sureP (pickQ way b r) = true := by unfold pickQ; split <;> assumption
      rw [if_pos hr, bgo_all way l _ hp, hr, Bool.true_and]; rfl
    · rw [if_neg hr]
      have : sureP r = false := by simpa using hr
      rw [this, Bool.false_and]; rfl
theorem bgo_best {way : Int} (hw : way ≠ 0) (p : Int × Int) (l : List (Int × Int)) : bgo way p (p :: l) = bestQ way (p :: l) := by
  show (if (sureP p && sureP p) = true then bgo way (pickQ way p p) l else (0, 0)) = (if (p :: l).all sureP then l.foldl (pickQ way) p else (0, 0))
  rw [Bool.and_self]
  by_cases h : sureP p = true
  · have e : pickQ way p p = p := by unfold pickQ; split <;> rfl
    rw [if_pos h, e, bgo_all way l p h, List.all_cons, h, Bool.true_and]
  · have : sureP p = false := by simpa using h
    rw [if_neg h, List.all_cons, this, Bool.false_and]; rfl
end Go
namespace Go.Proofs.Ythmicnjigfcljaa
open Go.RowKit

set_option maxRecDepth 100000 in
theorem refIntL_any (n : Int) (w : World) : Calls Try.prog 56 #[.int .i64 n] w (Gives w (.agg #[.int .i64 n, .int .i64 1])) := by
  go_enter Try.func56, Try.ntmps56
  go_wp2_with (first | ((with_reducible show bodyPost _ _ _ _ _ _); exact ret_23 rfl rfl (by simp [go_sem]) rfl ⟨by simp [go_sem], (by repeat (first | exact grA | apply grB | apply grC | apply grD))⟩))

set_option maxRecDepth 100000 in
set_option maxHeartbeats 4000000 in
theorem refAddL_any (v : Value) (l : List (Int × Int)) (w : World) (hr : RatsAt w v l) : Calls Try.prog 43 #[v] w (Gives w (ratV (foldQ (0, 1) addQ l))) := by
  rw [foldQ_ref _ _ (fun p q h => addQ_over h)]
  obtain ⟨a, cap, rfl, hlc, hc, hi, hr⟩ := hr
  have HI := Lib.hid hi; have HR := Lib.hid hr; clear hi hr
  generalize hR : refFold (0, 1) addQ l = R at *
  have HRR : Hid (refGo addQ false (0, 1) l = R) := hR
  clear hR
  obtain ⟨R1, R2⟩ := R
  go_enter Try.func43, Try.ntmps43
  go_wp2_with (first | (go_at_call 56; (with_reducible refine (refIntL_any _ _).mono ?_); rintro e w1 ⟨rfl, x1, rfl⟩))
  go_loopw [9] (fun i wr => ∃ (k : Nat) (o1 o2 : Int), k ≤ l.length ∧ i = .int .i64 k ∧ Hid (I64p (o1, o2)) ∧ Hid (refGo addQ (decide (k ≠ 0)) (o1, o2) (l.drop k) = (R1, R2)) ∧ w.grows wr ∧ wr.row w.heap.size = some (.cells #[.int .i64 0, .int .i64 0] 23) ∧ wr.row (w.heap.size + 1 + x1.bs.size) = some (.cells #[.int .i64 o1, .int .i64 o2] 23)) (fun i _ => l.length - (intOf i).toNat)
  case atStart => exact ⟨0, 0, 1, Nat.zero_le _, rfl, ⟨by unfold I64; omega, by unfold I64; omega⟩, HRR.out, (by repeat (with_reducible first | assumption | exact grA | apply grB | apply grC | apply grD | refine grE ?_ (by omega) _ | refine grF ?_ (by omega) _ _)), (by simp [go_sem]), (by simp [go_sem])⟩
  case round =>
    obtain ⟨k, o1, o2, hk, rfl, HO1, HG, hg, hy, hx⟩ := hrel
    have z1 := row_sz' hx; have z2 := row_sz' hy
    by_cases hlt : k < l.length
    · rcases HR.out with h | ⟨g, off, rfl, hcell⟩
      · rw [h] at hlt; cases hlt
      have hd : l.drop k = l[k] :: l.drop (k + 1) := List.drop_eq_getElem_cons hlt
      have hcl := (hcell k l[k] (by simp [hlt])).grows hg
      have zr := lt_sz hcl.lt
      have e3 : segOk (off + k * 2) 2 (wr.row g) = true := hcl.1
      have e4 : segV (off + k * 2) 2 (wr.row g) = ratV l[k] := hcl.2
      have hq := HI.out l[k] (List.getElem_mem _)
      have c1 := fun w => refClean_any l[k].1 l[k].2 w hq.1 hq.2
      have c2 := fun w => refAdd2_any o1 o2 l[k].1 l[k].2 w HO1.out.1 HO1.out.2 hq.1 hq.2
      have hb1 := cleanQ_bd hq
      have hb2 := addQ_bd (o1, o2) l[k]
      have hG := HG.out
      rw [hd] at hG
      change ∀ w, Calls _ _ _ w (Gives w (ratV (cleanQ l[k]))) at c1
      change ∀ w, Calls _ _ _ w (Gives w (ratV (addQ (o1, o2) l[k]))) at c2
      by_cases hk0 : k = 0
      · subst hk0
        have hG' : refGo addQ true (cleanQ l[0]) (l.drop 1) = (R1, R2) := hG
        generalize cleanQ l[0] = Q at *
        generalize l[0] = r at *
        obtain ⟨q1, q2⟩ := Q
        obtain ⟨r1, r2⟩ := r
        have C1 := Lib.hid c1; have HG' := Lib.hid hG'; have HB := Lib.hid hb1; clear c1 c2 hG hG' hd hcl hq HG hcell hb1 hb2
        simp only [Nat.zero_mul, Nat.add_zero] at e3 e4
        go_wp2_with (first | (go_at_call 60; (with_reducible refine (C1.out _).mono ?_); rintro e w1 ⟨rfl, x1, rfl⟩))
        go_roundw
        case rel => exact ⟨1, q1, q2, by omega, by go_num, HB.out, HG'.out, (by repeat (with_reducible first | assumption | exact grA | apply grB | apply grC | apply grD | refine grE ?_ (by omega) _ | refine grF ?_ (by omega) _ _)), (by simp [go_sem, hx, hy, z1, z2]), (by simp [go_sem, hx, hy, z1, z2])⟩
        case measure => simp [intOf]; omega
      · have hkb : (k == 0) = false := by simpa using hk0
        have hG' : refGo addQ (decide (k + 1 ≠ 0)) (addQ (o1, o2) l[k]) (l.drop (k + 1)) = (R1, R2) := by
          have e : decide (k ≠ 0) = true := by simpa using hk0
          have e' : decide (k + 1 ≠ 0) = true := by simp
          rw [e] at hG; rw [e']; exact hG
        generalize addQ (o1, o2) l[k] = Q at *
        generalize l[k] = r at *
        obtain ⟨q1, q2⟩ := Q
        obtain ⟨r1, r2⟩ := r
        have C2 := Lib.hid c2; have HG' := Lib.hid hG'; have HB := Lib.hid hb2; clear c1 c2 hG hG' hd hcl hq HG hcell hb1 hb2 hk0
        go_wp2_with (first | (go_at_call 74; (with_reducible refine (C2.out _).mono ?_); rintro e w1 ⟨rfl, x1, rfl⟩))
        go_roundw
        case rel => exact ⟨k + 1, q1, q2, by omega, by go_num, HB.out, HG'.out, (by repeat (with_reducible first | assumption | exact grA | apply grB | apply grC | apply grD | refine grE ?_ (by omega) _ | refine grF ?_ (by omega) _ _)), (by simp [go_sem, hx, hy, z1, z2]), (by simp [go_sem, hx, hy, z1, z2])⟩
        case measure => simp [intOf]; omega
    · have hkl : k = l.length := by omega
      have eR : (R1, R2) = (o1, o2) := by
        rw [← HG.out, hkl, List.drop_length]
        by_cases h : l.length = 0
        · have h1 : l = [] := List.length_eq_zero_iff.1 h
          subst h1; rfl
        · have e : decide (l.length ≠ 0) = true := by simpa using h
          rw [e]; rfl
      obtain ⟨rfl, rfl⟩ := Prod.mk.inj eR
      subst hkl
      clear eR HG
      go_wp2_with (first | ((with_reducible show bodyPost _ _ _ _ _ _); exact ret_23 rfl rfl (by simp [go_sem, hx, hy, z1, z2]) rfl ⟨by simp [go_sem, hx, hy, z1, z2], (by repeat (with_reducible first | assumption | exact grA | apply grB | apply grC | apply grD | refine grE ?_ (by omega) _ | refine grF ?_ (by omega) _ _))⟩))

set_option maxRecDepth 100000 in
set_option maxHeartbeats 4000000 in
theorem refMulL_any (v : Value) (l : List (Int × Int)) (w : World) (hr : RatsAt w v l) : Calls Try.prog 44 #[v] w (Gives w (ratV (foldQ (1, 1) mulQ l))) := by
  rw [foldQ_ref _ _ (fun p q h => mulQ_over h)]
  obtain ⟨a, cap, rfl, hlc, hc, hi, hr⟩ := hr
  have HI := Lib.hid hi; have HR := Lib.hid hr; clear hi hr
  generalize hR : refFold (1, 1) mulQ l = R at *
  have HRR : Hid (refGo mulQ false (1, 1) l = R) := hR
  clear hR
  obtain ⟨R1, R2⟩ := R
  go_enter Try.func44, Try.ntmps44
  go_wp2_with (first | (go_at_call 56; (with_reducible refine (refIntL_any _ _).mono ?_); rintro e w1 ⟨rfl, x1, rfl⟩))
  go_loopw [9] (fun i wr => ∃ (k : Nat) (o1 o2 : Int), k ≤ l.length ∧ i = .int .i64 k ∧ Hid (I64p (o1, o2)) ∧ Hid (refGo mulQ (decide (k ≠ 0)) (o1, o2) (l.drop k) = (R1, R2)) ∧ w.grows wr ∧ wr.row w.heap.size = some (.cells #[.int .i64 0, .int .i64 0] 23) ∧ wr.row (w.heap.size + 1 + x1.bs.size) = some (.cells #[.int .i64 o1, .int .i64 o2] 23)) (fun i _ => l.length - (intOf i).toNat)
  case atStart => exact ⟨0, 1, 1, Nat.zero_le _, rfl, ⟨by unfold I64; omega, by unfold I64; omega⟩, HRR.out, (by repeat (with_reducible first | assumption | exact grA | apply grB | apply grC | apply grD | refine grE ?_ (by omega) _ | refine grF ?_ (by omega) _ _)), (by simp [go_sem]), (by simp [go_sem])⟩
  case round =>
    obtain ⟨k, o1, o2, hk, rfl, HO1, HG, hg, hy, hx⟩ := hrel
    have z1 := row_sz' hx; have z2 := row_sz' hy
    by_cases hlt : k < l.length
    · rcases HR.out with h | ⟨g, off, rfl, hcell⟩
      · rw [h] at hlt; cases hlt
      have hd : l.drop k = l[k] :: l.drop (k + 1) := List.drop_eq_getElem_cons hlt
      have hcl := (hcell k l[k] (by simp [hlt])).grows hg
      have zr := lt_sz hcl.lt
      have e3 : segOk (off + k * 2) 2 (wr.row g) = true := hcl.1
      have e4 : segV (off + k * 2) 2 (wr.row g) = ratV l[k] := hcl.2
      have hq := HI.out l[k] (List.getElem_mem _)
      have c1 := fun w => refClean_any l[k].1 l[k].2 w hq.1 hq.2
      have c2 := fun w => refMul2_any o1 o2 l[k].1 l[k].2 w HO1.out.1 HO1.out.2 hq.1 hq.2
      have hb1 := cleanQ_bd hq
      have hb2 := mulQ_bd (o1, o2) l[k]
      have hG := HG.out
      rw [hd] at hG
      change ∀ w, Calls _ _ _ w (Gives w (ratV (cleanQ l[k]))) at c1
      change ∀ w, Calls _ _ _ w (Gives w (ratV (mulQ (o1, o2) l[k]))) at c2
      by_cases hk0 : k = 0
      · subst hk0
        have hG' : refGo mulQ true (cleanQ l[0]) (l.drop 1) = (R1, R2) := hG
        generalize cleanQ l[0] = Q at *
        generalize l[0] = r at *
        obtain ⟨q1, q2⟩ := Q
        obtain ⟨r1, r2⟩ := r
        have C1 := Lib.hid c1; have HG' := Lib.hid hG'; have HB := Lib.hid hb1; clear c1 c2 hG hG' hd hcl hq HG hcell hb1 hb2
        simp only [Nat.zero_mul, Nat.add_zero] at e3 e4
        go_wp2_with (first | (go_at_call 60; (with_reducible refine (C1.out _).mono ?_); rintro e w1 ⟨rfl, x1, rfl⟩))
        go_roundw
        case rel => exact ⟨1, q1, q2, by omega, by go_num, HB.out, HG'.out, (by repeat (with_reducible first | assumption | exact grA | apply grB | apply grC | apply grD | refine grE ?_ (by omega) _ | refine grF ?_ (by omega) _ _)), (by simp [go_sem, hx, hy, z1, z2]), (by simp [go_sem, hx, hy, z1, z2])⟩
        case measure => simp [intOf]; omega
      · have hkb : (k == 0) = false := by simpa using hk0
        have hG' : refGo mulQ (decide (k + 1 ≠ 0)) (mulQ (o1, o2) l[k]) (l.drop (k + 1)) = (R1, R2) := by
          have e : decide (k ≠ 0) = true := by simpa using hk0
          have e' : decide (k + 1 ≠ 0) = true := by simp
          rw [e] at hG; rw [e']; exact hG
        generalize mulQ (o1, o2) l[k] = Q at *
        generalize l[k] = r at *
        obtain ⟨q1, q2⟩ := Q
        obtain ⟨r1, r2⟩ := r
        have C2 := Lib.hid c2; have HG' := Lib.hid hG'; have HB := Lib.hid hb2; clear c1 c2 hG hG' hd hcl hq HG hcell hb1 hb2 hk0
        go_wp2_with (first | (go_at_call 75; (with_reducible refine (C2.out _).mono ?_); rintro e w1 ⟨rfl, x1, rfl⟩))
        go_roundw
        case rel => exact ⟨k + 1, q1, q2, by omega, by go_num, HB.out, HG'.out, (by repeat (with_reducible first | assumption | exact grA | apply grB | apply grC | apply grD | refine grE ?_ (by omega) _ | refine grF ?_ (by omega) _ _)), (by simp [go_sem, hx, hy, z1, z2]), (by simp [go_sem, hx, hy, z1, z2])⟩
        case measure => simp [intOf]; omega
    · have hkl : k = l.length := by omega
      have eR : (R1, R2) = (o1, o2) := by
        rw [← HG.out, hkl, List.drop_length]
        by_cases h : l.length = 0
        · have h1 : l = [] := List.length_eq_zero_iff.1 h
          subst h1; rfl
        · have e : decide (l.length ≠ 0) = true := by simpa using h
          rw [e]; rfl
      obtain ⟨rfl, rfl⟩ := Prod.mk.inj eR
      subst hkl
      clear eR HG
      go_wp2_with (first | ((with_reducible show bodyPost _ _ _ _ _ _); exact ret_23 rfl rfl (by simp [go_sem, hx, hy, z1, z2]) rfl ⟨by simp [go_sem, hx, hy, z1, z2], (by repeat (with_reducible first | assumption | exact grA | apply grB | apply grC | apply grD | refine grE ?_ (by omega) _ | refine grF ?_ (by omega) _ _))⟩))

end Go.Proofs.Ythmicnjigfcljaa

/- WALKS over jalousieref1: the least and the greatest of a list. No condition but that numbers are of their kinds, and that the sign is not 0. -/
namespace Go.Proofs.Ythmicnjigfcljaa
open Go.RowKit

set_option maxRecDepth 100000 in
set_option maxHeartbeats 4000000 in
theorem refBest_any (way : Int) (hw : way ≠ 0) (v : Value) (l : List (Int × Int)) (w : World) (hr : RatsAt w v l) : Calls Try.prog 94 #[.int .i64 way, v] w (Gives w (ratV (bestQ way l))) := by
  obtain ⟨a, cap, rfl, hlc, hc, hi, hr⟩ := hr
  have HI := Lib.hid hi; have HR := Lib.hid hr; clear hi hr
  cases l with
  | nil =>
    clear HI HR hlc hw
    simp only [bestQ, List.length_nil]
    go_enter Try.func94, Try.ntmps94
    go_wp2_with (first | (go_at_call 79; (with_reducible refine (refOver_any _).mono ?_); rintro e w1 ⟨rfl, x1, rfl⟩) | ((with_reducible show bodyPost _ _ _ _ _ _); exact ret_23 rfl rfl (by simp [go_sem]) rfl ⟨by simp [go_sem], (by repeat (first | exact grA | apply grB | apply grC | apply grD))⟩))
  | cons p0 l0 =>
    have hbb := bgo_best hw p0 l0
    generalize hl : p0 :: l0 = l at *
    have hlen : 0 < l.length := by rw [← hl]; simp
    have hp0 : l[0]? = some p0 := by rw [← hl]; rfl
    have hI0 := HI.out p0 (by rw [← hl]; simp)
    generalize bestQ way l = R at *
    have HRR := Lib.hid hbb; clear hbb hl hw
    obtain ⟨R1, R2⟩ := R
    rcases HR.out with h | ⟨g, off, rfl, hcell⟩
    · rw [h] at hlen; cases hlen
    have h0 := hcell 0 p0 hp0
    simp only [Nat.zero_mul, Nat.add_zero] at h0
    have zg := lt_sz h0.lt
    have e1 : segOk off 2 (w.row g) = true := h0.1
    have e2 : segV off 2 (w.row g) = ratV p0 := h0.2
    have hlen' : ((l.length : Int) == 0) = false := by rw [beq_eq_false_iff_ne]; omega
    have HC := Lib.hid hcell; clear hcell HR hp0 h0
    have HP0 := Lib.hid hI0; clear hI0
    obtain ⟨p1, p2⟩ := p0
    go_enter Try.func94, Try.ntmps94
    go_wp2_with fail
    clear e1 e2 hlen'
    go_loopw [19] (fun i wr => ∃ (k : Nat) (o1 o2 : Int), k ≤ l.length ∧ i = .int .i64 k ∧ Hid (I64p (o1, o2)) ∧ Hid (bgo way (o1, o2) (l.drop k) = (R1, R2)) ∧ w.grows wr ∧ wr.row w.heap.size = some (.cells #[.int .i64 0, .int .i64 0] 23) ∧ wr.row (w.heap.size + 1) = some (.cells #[.int .i64 o1, .int .i64 o2] 23)) (fun i _ => l.length - (intOf i).toNat)
    case atStart => exact ⟨0, p1, p2, Nat.zero_le _, rfl, HP0.out, HRR.out, (by repeat (with_reducible first | assumption | exact grA | apply grB | apply grC | apply grD | refine grE ?_ (by omega) _ | refine grF ?_ (by omega) _ _)), (by simp [go_sem]), (by simp [go_sem])⟩
    case round =>
      obtain ⟨k, o1, o2, hk, rfl, HO1, HG, hg, hy, hx⟩ := hrel
      have z1 := row_sz' hx; have z2 := row_sz' hy
      by_cases hlt : k < l.length
      · have hd : l.drop k = l[k] :: l.drop (k + 1) := List.drop_eq_getElem_cons hlt
        have hcl := (HC.out k l[k] (by simp [hlt])).grows hg
        have zr := lt_sz hcl.lt
        have e3 : segOk (off + k * 2) 2 (wr.row g) = true := hcl.1
        have e4 : segV (off + k * 2) 2 (wr.row g) = ratV l[k] := hcl.2
        have hq := HI.out l[k] (List.getElem_mem _)
        have hG := HG.out
        rw [hd] at hG
        change (if (sureP l[k] && sureP (o1, o2)) = true then bgo way (pickQ way (o1, o2) l[k]) (l.drop (k + 1)) else (0, 0)) = (R1, R2) at hG
        have c1 := fun w => refCmp_any l[k].1 l[k].2 o1 o2 w hq.1 hq.2 HO1.out.1 HO1.out.2
        unfold cmpV at c1
        change ∀ w, Calls _ _ _ w (Gives w (.tuple #[.int .i64 (if (sureP l[k] && sureP (o1, o2)) = true then cmpI l[k].1 l[k].2 o1 o2 else 0), .bool (sureP l[k] && sureP (o1, o2))])) at c1
        have hpk : pickQ way (o1, o2) l[k] = if cmpI l[k].1 l[k].2 o1 o2 = way then l[k] else (o1, o2) := rfl
        rw [hpk] at hG; clear hpk
        have HRI := Lib.hid hq
        clear hd hcl hq HG
        generalize cmpI l[k].1 l[k].2 o1 o2 = C at *
        generalize (sureP l[k] && sureP (o1, o2)) = CB at *
        generalize l[k] = r at *
        obtain ⟨r1, r2⟩ := r
        have hz0 : off + k * 2 = off + k * 2 := rfl
        cases CB with
        | false =>
          obtain ⟨rfl, rfl⟩ := Prod.mk.inj hG.symm
          simp only [Bool.false_eq_true, if_false] at c1
          have C1 := Lib.hid c1; clear c1 hG
          by_cases hk0 : k = 0
          · subst hk0
            simp only [Nat.zero_mul, Nat.add_zero] at e3 e4
            go_wp2_with (first | (go_at_call 112; (with_reducible refine (C1.out _).mono ?_); rintro e w1 ⟨rfl, x1, rfl⟩) | (go_at_call 79; (with_reducible refine (refOver_any _).mono ?_); rintro e w1 ⟨rfl, x1, rfl⟩) | ((with_reducible show bodyPost _ _ _ _ _ _); exact ret_23 rfl rfl (by simp [go_sem, hx, hy, z1, z2]) rfl ⟨by simp [go_sem, hx, hy, z1, z2], (by repeat (with_reducible first | assumption | exact grA | apply grB | apply grC | apply grD | refine grE ?_ (by omega) _ | refine grF ?_ (by omega) _ _))⟩))
          · clear hk0
            go_wp2_with (first | (go_at_call 112; (with_reducible refine (C1.out _).mono ?_); rintro e w1 ⟨rfl, x1, rfl⟩) | (go_at_call 79; (with_reducible refine (refOver_any _).mono ?_); rintro e w1 ⟨rfl, x1, rfl⟩) | ((with_reducible show bodyPost _ _ _ _ _ _); exact ret_23 rfl rfl (by simp [go_sem, hx, hy, z1, z2]) rfl ⟨by simp [go_sem, hx, hy, z1, z2], (by repeat (with_reducible first | assumption | exact grA | apply grB | apply grC | apply grD | refine grE ?_ (by omega) _ | refine grF ?_ (by omega) _ _))⟩))
        | true =>
          simp only [if_true] at c1
          rw [if_pos rfl] at hG
          have C1 := Lib.hid c1; clear c1
          by_cases hC : C = way
          · rw [if_pos hC] at hG
            have HG' := Lib.hid hG; clear hG
            subst hC
            by_cases hk0 : k = 0
            · subst hk0
              simp only [Nat.zero_mul, Nat.add_zero] at e3 e4
              go_wp2_with (first | (go_at_call 112; (with_reducible refine (C1.out _).mono ?_); rintro e w1 ⟨rfl, x1, rfl⟩))
              go_roundw
              case rel => exact ⟨1, r1, r2, by omega, by go_num, HRI.out, HG'.out, (by repeat (with_reducible first | assumption | exact grA | apply grB | apply grC | apply grD | refine grE ?_ (by omega) _ | refine grF ?_ (by omega) _ _)), (by simp [go_sem, hx, hy, z1, z2]), (by simp [go_sem, hx, hy, z1, z2])⟩
              case measure => simp [intOf]; omega
            · clear hk0
              go_wp2_with (first | (go_at_call 112; (with_reducible refine (C1.out _).mono ?_); rintro e w1 ⟨rfl, x1, rfl⟩))
              go_roundw
              case rel => exact ⟨k + 1, r1, r2, by omega, by go_num, HRI.out, HG'.out, (by repeat (with_reducible first | assumption | exact grA | apply grB | apply grC | apply grD | refine grE ?_ (by omega) _ | refine grF ?_ (by omega) _ _)), (by simp [go_sem, hx, hy, z1, z2]), (by simp [go_sem, hx, hy, z1, z2])⟩
              case measure => simp [intOf]; omega
          · have hCb : (C == way) = false := by simpa using hC
            rw [if_neg hC] at hG
            have HG' := Lib.hid hG; clear hG hC
            by_cases hk0 : k = 0
            · subst hk0
              simp only [Nat.zero_mul, Nat.add_zero] at e3 e4
              go_wp2_with (first | (go_at_call 112; (with_reducible refine (C1.out _).mono ?_); rintro e w1 ⟨rfl, x1, rfl⟩))
              go_roundw
              case rel => exact ⟨1, o1, o2, by omega, by go_num, HO1.out, HG'.out, (by repeat (with_reducible first | assumption | exact grA | apply grB | apply grC | apply grD | refine grE ?_ (by omega) _ | refine grF ?_ (by omega) _ _)), (by simp [go_sem, hx, hy, z1, z2]), (by simp [go_sem, hx, hy, z1, z2])⟩
              case measure => simp [intOf]; omega
            · clear hk0
              go_wp2_with (first | (go_at_call 112; (with_reducible refine (C1.out _).mono ?_); rintro e w1 ⟨rfl, x1, rfl⟩))
              go_roundw
              case rel => exact ⟨k + 1, o1, o2, by omega, by go_num, HO1.out, HG'.out, (by repeat (with_reducible first | assumption | exact grA | apply grB | apply grC | apply grD | refine grE ?_ (by omega) _ | refine grF ?_ (by omega) _ _)), (by simp [go_sem, hx, hy, z1, z2]), (by simp [go_sem, hx, hy, z1, z2])⟩
              case measure => simp [intOf]; omega
      · have hkl : k = l.length := by omega
        have eR : (R1, R2) = (o1, o2) := by rw [← HG.out, hkl, List.drop_length]; rfl
        obtain ⟨rfl, rfl⟩ := Prod.mk.inj eR
        subst hkl
        clear eR HG
        go_wp2_with (first | ((with_reducible show bodyPost _ _ _ _ _ _); exact ret_23 rfl rfl (by simp [go_sem, hx, hy, z1, z2]) rfl ⟨by simp [go_sem, hx, hy, z1, z2], (by repeat (with_reducible first | assumption | exact grA | apply grB | apply grC | apply grD | refine grE ?_ (by omega) _ | refine grF ?_ (by omega) _ _))⟩))

set_option maxRecDepth 100000 in
theorem refLeast_any (v : Value) (l : List (Int × Int)) (w : World) (hr : RatsAt w v l) : Calls Try.prog 68 #[v] w (Gives w (ratV (bestQ (-1) l))) := by
  have h1 := fun W (hg : w.grows W) => refBest_any (-1) (by decide) v l W (hr.grows hg)
  generalize bestQ (-1) l = R at *
  obtain ⟨R1, R2⟩ := R
  have H1 := Lib.hid h1; clear h1 hr
  go_enter Try.func68, Try.ntmps68
  go_wp2_with (first | (go_at_call 94; (with_reducible refine (H1.out _ (by repeat (with_reducible first | assumption | exact grA | apply grB | apply grC | apply grD | refine grE ?_ (by omega) _ | refine grF ?_ (by omega) _ _))).mono ?_); rintro e w1 ⟨rfl, x1, rfl⟩) | ((with_reducible show bodyPost _ _ _ _ _ _); exact ret_23 rfl rfl (by simp [go_sem]) rfl ⟨by simp [go_sem], (by repeat (first | exact grA | apply grB | apply grC | apply grD))⟩))

set_option maxRecDepth 100000 in
theorem refMost_any (v : Value) (l : List (Int × Int)) (w : World) (hr : RatsAt w v l) : Calls Try.prog 69 #[v] w (Gives w (ratV (bestQ 1 l))) := by
  have h1 := fun W (hg : w.grows W) => refBest_any 1 (by decide) v l W (hr.grows hg)
  generalize bestQ 1 l = R at *
  obtain ⟨R1, R2⟩ := R
  have H1 := Lib.hid h1; clear h1 hr
  go_enter Try.func69, Try.ntmps69
  go_wp2_with (first | (go_at_call 94; (with_reducible refine (H1.out _ (by repeat (with_reducible first | assumption | exact grA | apply grB | apply grC | apply grD | refine grE ?_ (by omega) _ | refine grF ?_ (by omega) _ _))).mono ?_); rintro e w1 ⟨rfl, x1, rfl⟩) | ((with_reducible show bodyPost _ _ _ _ _ _); exact ret_23 rfl rfl (by simp [go_sem]) rfl ⟨by simp [go_sem], (by repeat (first | exact grA | apply grB | apply grC | apply grD))⟩))

end Go.Proofs.Ythmicnjigfcljaa

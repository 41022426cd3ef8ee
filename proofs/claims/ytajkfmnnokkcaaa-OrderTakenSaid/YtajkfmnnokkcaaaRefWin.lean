/- WALKS over jalousieref20: Winners: of each name the strongest claim, put in by rising names. No condition but that the claims stand in memory, may be, and are not too many. -/
import Derived.Test.YtajkfmnnokkcaaaIntsApp
import Derived.Test.YtajkfmnnokkcaaaRefSort
set_option linter.unusedSimpArgs false
set_option linter.unusedVariables false
namespace Go
open Go.RowKit
/-- those that win among the first i -/
structure InsTo (l : List Cl) (i : Nat) (W : List Int) : Prop where
  val : ∀ v ∈ W, ∃ k : Nat, v = (k : Int) ∧ k < i ∧ Best l k
  up : (W.map fun v => (atC l v).n).Pairwise (· < ·)
  all : ∀ k : Nat, k < i → Best l k → (k : Int) ∈ W
theorem InsTo.none (l : List Cl) : InsTo l 0 [] := ⟨fun v h => (by simp at h), by simp, fun k h => by omega⟩
theorem InsTo.skip {l : List Cl} {i : Nat} {W : List Int} (h : InsTo l i W) (hb : ¬ Best l i) : InsTo l (i + 1) W :=
  ⟨fun v hv => by obtain ⟨k, a, b, c⟩ := h.val v hv; exact ⟨k, a, by omega, c⟩, h.up, fun k hk hkb => by
    by_cases e : k = i
    · rw [e] at hkb; exact (hb hkb).elim
    · exact h.all k (by omega) hkb⟩
theorem InsTo.put {l : List Cl} {i : Nat} {W : List Int} (h : InsTo l i W) (hi : i < l.length) (hb : Best l i) {at_ : Nat} (ha : at_ ≤ W.length) (h1 : ∀ j v, j < at_ → W[j]? = some v → (atC l v).n < (atC l i).n)
    (h2 : ∀ v, W[at_]? = some v → ¬ (atC l v).n < (atC l i).n) : InsTo l (i + 1) (W.take at_ ++ ([(i : Int)] ++ W.drop at_)) := by
  have hW : W = W.take at_ ++ W.drop at_ := (List.take_append_drop _ _).symm
  have hlt : ∀ v ∈ W.take at_, (atC l v).n < (atC l i).n := fun v hv => by
    obtain ⟨j, hj, rfl⟩ := List.mem_iff_getElem.1 hv
    have hj' : j < at_ ∧ j < W.length := by simpa [Nat.lt_min] using hj
    exact h1 j _ hj'.1 (by rw [List.getElem_take]; exact List.getElem?_eq_getElem hj'.2)
  have hup := h.up
  rw [hW, List.map_append, List.pairwise_append] at hup
  obtain ⟨u1, u2, u3⟩ := hup
  have hgt : ∀ v ∈ W.drop at_, (atC l i).n < (atC l v).n := fun v hv => by
    obtain ⟨j, hj, rfl⟩ := List.mem_iff_getElem.1 hv
    have hj' : at_ + j < W.length := by simp at hj; omega
    have first : (atC l i).n < (atC l (W[at_]'(by omega))).n := by
      have hm : W[at_]'(by omega) ∈ W := List.getElem_mem _
      obtain ⟨k, ek, hk, bk⟩ := h.val _ hm
      have hn := h2 _ (List.getElem?_eq_getElem (by omega : at_ < W.length))
      rcases str_tri (atC l (W[at_]'(by omega))).n (atC l i).n with x | x | x
      · exact (hn x).elim
      · rw [ek] at x; have := bk.one (by omega) hi hb x; omega
      · exact x
    rw [List.getElem_drop]
    by_cases j0 : j = 0
    · subst j0; exact first
    · have hp := h.up
      rw [List.pairwise_map, List.pairwise_iff_getElem] at hp
      exact List.lt_trans first (hp at_ (at_ + j) (by omega) hj' (by omega))
  refine ⟨fun v hv => ?_, ?_, fun k hk hkb => ?_⟩
  · rw [List.mem_append, List.mem_append] at hv
    rcases hv with hv | hv | hv
    · obtain ⟨k, a, b, c⟩ := h.val v (List.mem_of_mem_take hv); exact ⟨k, a, by omega, c⟩
    · exact ⟨i, by simpa using hv, by omega, hb⟩
    · obtain ⟨k, a, b, c⟩ := h.val v (List.mem_of_mem_drop hv); exact ⟨k, a, by omega, c⟩
  · rw [List.map_append, List.map_append, List.pairwise_append, List.pairwise_append]
    refine ⟨u1, ⟨by simp, u2, ?_⟩, ?_⟩
    · intro a ha b hb'
      obtain rfl : a = (atC l i).n := by simpa using ha
      obtain ⟨v, hv, rfl⟩ := List.mem_map.1 hb'
      exact hgt v hv
    · intro a ha b hb'
      rcases List.mem_append.1 hb' with hb' | hb'
      · obtain rfl : b = (atC l i).n := by simpa using hb'
        obtain ⟨v, hv, rfl⟩ := List.mem_map.1 ha
        exact hlt v hv
      · exact u3 a ha b hb'
  · rw [List.mem_append, List.mem_append]
    by_cases e : k = i
    · right; left; simp [e]
    · have := h.all k (by omega) hkb
      rw [hW, List.mem_append] at this
      rcases this with x | x
      · exact .inl x
      · exact .inr (.inr x)
theorem InsTo.wins {l : List Cl} {W V : List Int} (h : InsTo l l.length W) (hV : Wins l V) : W = V := by
  refine Wins.uniq ⟨h.val, h.up, fun k hk => ?_⟩ hV
  obtain ⟨v, hv, e⟩ := hV.all k hk
  obtain ⟨m, rfl, hm, bm⟩ := hV.val v hv
  exact ⟨(m : Int), h.all m hm bm, e⟩
/-- none of the first m claims of its name is stronger than i -/
def winsTo (l : List Cl) (i m : Nat) : Prop := ∀ k : Nat, k < m → (atC l k).n = (atC l i).n → ¬ ltC (atC l) i k
theorem winsTo_best {l : List Cl} {i : Nat} (hi : i < l.length) : winsTo l i l.length ↔ Best l i := by
  constructor
  · intro h k hk e hne
    rcases ltC_or (atC l) (show (k : Int) ≠ i by omega) with x | x
    · exact x
    · exact (h k hk e x).elim
  · intro h k hk e hlt
    by_cases hne : k = i
    · rw [hne] at hlt; exact ltC_irr _ _ hlt
    · exact ltC_irr _ _ (ltC_trans _ _ _ _ hlt (h k hk e hne))
theorem winsTo_succ {l : List Cl} {i m : Nat} : winsTo l i (m + 1) ↔ winsTo l i m ∧ ¬ ((atC l m).n = (atC l i).n ∧ ltC (atC l) i m) := by
  constructor
  · intro h
    exact ⟨fun k hk => h k (by omega), fun ⟨a, b⟩ => h m (by omega) a b⟩
  · rintro ⟨h1, h2⟩ k hk e hlt
    by_cases x : k = m
    · rw [x] at e hlt; exact h2 ⟨e, hlt⟩
    · exact h1 k (by omega) e hlt
end Go
namespace Go.Proofs.Ytajkfmnnokkcaaa
open Go.RowKit

set_option maxRecDepth 100000 in
set_option maxHeartbeats 8000000 in
theorem refWinners_any (v : Value) (l : List Cl) (w : World) (h : SlAt w (fun _ => True) 8 ClR v l) (hN : l.length ≤ 1048576) (hm : l.all Cl.may = true) (V : List Int) (hV : Wins l V) :
    Calls Try.prog 15 #[v] w fun e w' => ∃ v', e = .returned v' ∧ w.grows w' ∧ IntsAt w' v' V := by
  obtain ⟨a, cap, rfl, h1, h2, h3⟩ := h
  have H3 := Lib.hid h3
  have HM := Lib.hid (mayTo_all.1 hm)
  have HV := Lib.hid hV
  clear h3 hm hV
  have key : ∀ N, N = l.length → N ≤ cap → N ≤ 1048576 → Calls Try.prog 15 #[.slice a N cap] w fun e w' => ∃ v', e = .returned v' ∧ w.grows w' ∧ IntsAt w' v' V := fun N eN h1 hN => by
    have EN := Lib.hid eN
    clear eN
    go_enter Try.func15, Try.ntmps15
    go_wp2_with fail
    go_loopg [3, 12] N (fun gn v3 v12 wj => ∃ (i : Nat) (W : List Int), Hid (gn + i = N ∧ i ≤ N ∧ W.length ≤ i) ∧ v12 = .int .i64 i ∧ w.grows wj ∧ Hid (IntsAt wj v3 W ∧ InsTo l i W))
    case atStart => exact ⟨0, [], Lib.hid ⟨rfl, Nat.zero_le _, Nat.le_refl _⟩, by go_num, (by repeat (with_reducible first | assumption | exact grA | apply grB | apply grC | apply grD | refine grE ?_ (by omega) _ | refine grF ?_ (by omega) _ _)), Lib.hid ⟨SlAt_nil _ _ _ _, InsTo.none l⟩⟩
    case round =>
      obtain ⟨i1, W, HK, rfl, hg, HW⟩ := hrel
      obtain ⟨k1, k2, k3⟩ := HK.out
      by_cases hlt : i1 < N
      · have hNl := EN.out
        rcases H3.out with h0 | ⟨g, off, rfl, _, h4⟩
        · rw [h0] at hNl; simp at hNl; omega
        have hgt := List.getElem?_eq_getElem (by omega : i1 < l.length)
        obtain ⟨cs, _, el, ec, _⟩ := h4 i1 _ hgt
        have hatx := atC_get hgt
        have hmx := HM.out i1 _ (by omega) hgt
        generalize l[i1] = x at *
        subst ec
        replace el := el.grows hg
        have e1 : segOk (off + i1 * 8) 8 (wr.row g) = true := el.1
        have e2 : segV (off + i1 * 8) 8 (wr.row g) = x.v := el.2
        have zg := lt_sz el.lt
        have n1 : (i1 : Int) < (N : Int) := by omega
        have H4 := Lib.hid h4; have HAT := Lib.hid hatx; have HMX := Lib.hid hmx
        obtain ⟨n3, c3, rfl, hc3, hc4⟩ := HW.out.1.len
        clear h4 hatx hmx el hgt hNl
        obtain ⟨q0, q1, q2, q3, q4, q5, q6, q7⟩ := x
        generalize wr = wo at *
        go_wp2_with fail
        go_loopg [6, 19] N (fun gn v6 v19 wj => ∃ (k : Nat) (b : Bool), Hid (gn + k = N ∧ k ≤ N) ∧ v19 = .int .i64 k ∧ v6 = .bool b ∧ Hid (b = true ↔ winsTo l i1 k) ∧ wo.grows wj ∧ wj.row wo.heap.size = some (.cells #[.string q0, .int .i64 q1, .bool q2, .int .i64 q3, .int .i64 q4, .int .i64 q5, .int .i64 q6, .int .i64 q7] 34))
        case atStart => exact ⟨0, true, Lib.hid ⟨rfl, Nat.zero_le _⟩, by go_num, rfl, Lib.hid ⟨fun _ k h => by omega, fun _ => rfl⟩, (by repeat (with_reducible first | assumption | exact grA | apply grB | apply grC | apply grD | refine grE ?_ (by omega) _ | refine grF ?_ (by omega) _ _)), by simp [go_sem]⟩
        case round =>
          obtain ⟨k, b, HKi, rfl, rfl, HB, hgi, hxi⟩ := hrel
          obtain ⟨m1, m2⟩ := HKi.out
          have zxi := row_sz' hxi
          by_cases hlk : k < N
          · have hNl := EN.out
            have hgt := List.getElem?_eq_getElem (by omega : k < l.length)
            obtain ⟨cs, _, el, ec, _⟩ := H4.out k _ hgt
            have haty := atC_get hgt
            have hmy := HM.out k _ (by omega) hgt
            generalize l[k] = y at *
            subst ec
            replace el := (el.grows hg).grows hgi
            have d1 : segOk (off + k * 8) 8 (wr.row g) = true := el.1
            have d2 : segV (off + k * 8) 8 (wr.row g) = y.v := el.2
            have zgi := lt_sz el.lt
            have n2 : (k : Int) < (N : Int) := by omega
            have c1 := fun W => refWeaker_any _ y W HMX.out hmy
            have c2 := fun W => refWeaker_any y _ W hmy HMX.out
            have hlo := asked_lt (atC l) i1 k (by rw [HAT.out]; exact HMX.out) (by rw [haty]; exact hmy)
            rw [haty, HAT.out] at hlo
            have hws : ∀ {c : Bool}, ((c = true) ↔ (y.p = q0 ∧ ltC (atC l) i1 k)) → (c = false → (b = true ↔ winsTo l i1 (k + 1))) ∧ (c = true → ((false : Bool) = true ↔ winsTo l i1 (k + 1))) := fun {c} hc => by
              have e0 : ((atC l k).n = (atC l i1).n ∧ ltC (atC l) i1 k) ↔ c = true := by
                rw [hc, haty, HAT.out]
                unfold Cl.n
                rw [name_eq]
              rw [winsTo_succ, e0, HB.out]
              exact ⟨fun h => by rw [h]; simp, fun h => by rw [h]; simp⟩
            generalize Cl.weak ⟨q0, q1, q2, q3, q4, q5, q6, q7⟩ y = B1 at *
            generalize Cl.weak y ⟨q0, q1, q2, q3, q4, q5, q6, q7⟩ = B2 at *
            have hws2 := hws (c := decide (y.p = q0) && (B1 || (decide (i1 < k) && !B2))) (by rw [Bool.and_eq_true, hlo, decide_eq_true_eq])
            clear hlo haty hmy el hgt hNl hws
            have C1 := Lib.hid c1; have C2 := Lib.hid c2; have HWS := Lib.hid hws2
            clear c1 c2 hws2
            obtain ⟨y0, y1, y2, y3, y4, y5, y6, y7⟩ := y
            by_cases hp : y0 = q0
            · subst hp
              cases B1
              · by_cases hki : i1 < k
                · have n5 : (i1 : Int) < (k : Int) := by omega
                  cases B2
                  · have HR : Hid ((false : Bool) = true ↔ winsTo l i1 (k + 1)) := Lib.hid (HWS.out.2 (by simp [hki]))
                    go_wp2_with (first | (go_at_call 23; (with_reducible refine (C1.out _).mono ?_); rintro e w1 ⟨rfl, x1, rfl⟩) | (go_at_call 23; (with_reducible refine (C2.out _).mono ?_); rintro e w1 ⟨rfl, x1, rfl⟩))
                    go_roundg (N - (k + 1))
                    case rel => exact ⟨k + 1, false, Lib.hid ⟨by omega, by omega⟩, by go_num, rfl, HR, (by repeat (with_reducible first | assumption | exact grA | apply grB | apply grC | apply grD | refine grE ?_ (by omega) _ | refine grF ?_ (by omega) _ _)), by simp [go_sem, hxi, zxi]⟩
                    case measure => omega
                  · have HR : Hid (b = true ↔ winsTo l i1 (k + 1)) := Lib.hid (HWS.out.1 (by simp))
                    go_wp2_with (first | (go_at_call 23; (with_reducible refine (C1.out _).mono ?_); rintro e w1 ⟨rfl, x1, rfl⟩) | (go_at_call 23; (with_reducible refine (C2.out _).mono ?_); rintro e w1 ⟨rfl, x1, rfl⟩))
                    go_roundg (N - (k + 1))
                    case rel => exact ⟨k + 1, b, Lib.hid ⟨by omega, by omega⟩, by go_num, rfl, HR, (by repeat (with_reducible first | assumption | exact grA | apply grB | apply grC | apply grD | refine grE ?_ (by omega) _ | refine grF ?_ (by omega) _ _)), by simp [go_sem, hxi, zxi]⟩
                    case measure => omega
                · have n5 : ¬ (i1 : Int) < (k : Int) := by omega
                  have HR : Hid (b = true ↔ winsTo l i1 (k + 1)) := Lib.hid (HWS.out.1 (by simp [hki]))
                  go_wp2_with (first | (go_at_call 23; (with_reducible refine (C1.out _).mono ?_); rintro e w1 ⟨rfl, x1, rfl⟩) | (go_at_call 23; (with_reducible refine (C2.out _).mono ?_); rintro e w1 ⟨rfl, x1, rfl⟩))
                  go_roundg (N - (k + 1))
                  case rel => exact ⟨k + 1, b, Lib.hid ⟨by omega, by omega⟩, by go_num, rfl, HR, (by repeat (with_reducible first | assumption | exact grA | apply grB | apply grC | apply grD | refine grE ?_ (by omega) _ | refine grF ?_ (by omega) _ _)), by simp [go_sem, hxi, zxi]⟩
                  case measure => omega
              · have HR : Hid ((false : Bool) = true ↔ winsTo l i1 (k + 1)) := Lib.hid (HWS.out.2 (by simp))
                go_wp2_with (first | (go_at_call 23; (with_reducible refine (C1.out _).mono ?_); rintro e w1 ⟨rfl, x1, rfl⟩) | (go_at_call 23; (with_reducible refine (C2.out _).mono ?_); rintro e w1 ⟨rfl, x1, rfl⟩))
                go_roundg (N - (k + 1))
                case rel => exact ⟨k + 1, false, Lib.hid ⟨by omega, by omega⟩, by go_num, rfl, HR, (by repeat (with_reducible first | assumption | exact grA | apply grB | apply grC | apply grD | refine grE ?_ (by omega) _ | refine grF ?_ (by omega) _ _)), by simp [go_sem, hxi, zxi]⟩
                case measure => omega
            · have hq : ¬ y0.toList = q0.toList := by rw [ByteArray.toList_eq, ByteArray.toList_eq, name_eq]; exact hp
              have HR : Hid (b = true ↔ winsTo l i1 (k + 1)) := Lib.hid (HWS.out.1 (by simp [hp]))
              go_wp2_with (first | (go_at_call 23; (with_reducible refine (C1.out _).mono ?_); rintro e w1 ⟨rfl, x1, rfl⟩) | (go_at_call 23; (with_reducible refine (C2.out _).mono ?_); rintro e w1 ⟨rfl, x1, rfl⟩))
              go_roundg (N - (k + 1))
              case rel => exact ⟨k + 1, b, Lib.hid ⟨by omega, by omega⟩, by go_num, rfl, HR, (by repeat (with_reducible first | assumption | exact grA | apply grB | apply grC | apply grD | refine grE ?_ (by omega) _ | refine grF ?_ (by omega) _ _)), by simp [go_sem, hxi, zxi]⟩
              case measure => omega
          · have n2 : ¬ (k : Int) < (N : Int) := by omega
            obtain rfl : k = N := by omega
            have hgw : w.grows wr := hg.trans hgi
            have hbest : b = true ↔ Best l i1 := by rw [HB.out, EN.out]; exact winsTo_best (by rw [← EN.out]; exact hlt)
            have HBB := Lib.hid hbest
            clear hbest
            cases b
            · go_wp2_with fail
              go_roundg (k - (i1 + 1))
              case rel => exact ⟨i1 + 1, W, Lib.hid ⟨by omega, by omega, by omega⟩, by go_num, hgw, Lib.hid ⟨HW.out.1.grow hgi, HW.out.2.skip fun h => by have := HBB.out.2 h; cases this⟩⟩
              case measure => omega
            · have hb := HBB.out.1 rfl
              have HB2 := Lib.hid hb
              generalize wr = wi at *
              go_wp2_with fail
              go_loopg [9] W.length (fun gn v9 wj => ∃ j : Nat, Hid (gn + j = W.length ∧ j ≤ W.length) ∧ v9 = .int .i64 j ∧ wi.grows wj ∧ wj.row wo.heap.size = some (.cells #[.string q0, .int .i64 q1, .bool q2, .int .i64 q3, .int .i64 q4, .int .i64 q5, .int .i64 q6, .int .i64 q7] 34) ∧ Hid (∀ (m : Nat) v, m < j → W[m]? = some v → (atC l v).n < (atC l i1).n))
              case atStart => exact ⟨0, Lib.hid ⟨rfl, Nat.zero_le _⟩, by go_num, (by repeat (with_reducible first | assumption | exact grA | apply grB | apply grC | apply grD | refine grE ?_ (by omega) _ | refine grF ?_ (by omega) _ _)), by simp [go_sem, hxi, zxi], Lib.hid fun m v h => by omega⟩
              case round =>
                clear hxi zxi
                obtain ⟨j, HJ, rfl, hgj, hxj, HL⟩ := hrel
                obtain ⟨j1, j2⟩ := HJ.out
                have zxj := row_sz' hxj
                have hgr : w.grows wr := hgw.trans hgj
                have hgo : wo.grows wr := hgi.trans hgj
                have hI : IntsAt wr (.slice n3 W.length c3) W := (HW.out.1.grow hgi).grow hgj
                have HI := Lib.hid hI
                clear hI
                by_cases hjl : j < W.length
                · have hgt := List.getElem?_eq_getElem hjl
                  obtain ⟨m, em, hm, hbm⟩ := HW.out.2.val _ (List.getElem_mem hjl)
                  rw [em] at hgt
                  obtain ⟨a', c', e', _, _, hcell⟩ := HI.out
                  injection e' with e1' e2' e3'
                  subst e1'; subst e3'
                  clear e2'
                  rcases hcell with hnil | ⟨g3, off3, rfl, _, hcell⟩
                  · rw [hnil] at hjl; cases hjl
                  obtain ⟨cs3, _, el3, rfl⟩ := hcell j _ hgt
                  have c0 := el3.cell (j := 0) rfl
                  rw [World.cell?_row, Nat.add_zero, Nat.mul_one] at c0
                  have z3 := lt_sz el3.lt
                  have hNl := EN.out
                  have hgm := List.getElem?_eq_getElem (by omega : m < l.length)
                  obtain ⟨cs, _, el, ec, _⟩ := H4.out m _ hgm
                  have haty := atC_get hgm
                  generalize l[m] = y at *
                  subst ec
                  have c9 := ((el.grows hgr).cell (j := 0) rfl)
                  rw [World.cell?_row, Nat.add_zero] at c9
                  have z9 := lt_sz (el.grows hgr).lt
                  have hbl := bytesLess_n y ⟨q0, q1, q2, q3, q4, q5, q6, q7⟩
                  have n5 : (j : Int) < (W.length : Int) := by omega
                  have n6 : (m : Int) < (k : Int) := by omega
                  have HG := Lib.hid hgt
                  by_cases hlt2 : (atC l m).n < (atC l i1).n
                  · have hlt3 := hlt2
                    rw [haty, HAT.out] at hlt3
                    rw [decide_eq_true hlt3] at hbl
                    have HL2 : Hid (∀ (m : Nat) v, m < j + 1 → W[m]? = some v → (atC l v).n < (atC l i1).n) := Lib.hid fun m' v hm' hv => by
                      by_cases e : m' = j
                      · rw [e, HG.out] at hv; cases hv; exact hlt2
                      · exact HL.out m' v (by omega) hv
                    clear hcell el3 hgt el haty hlt2 hlt3 hgm em hbm hNl
                    obtain ⟨y0, y1, y2, y3, y4, y5, y6, y7⟩ := y
                    change Op.bytesLess y0.toList q0.toList = _ at hbl
                    go_upto_region 14 with fail
                    refine wp_region_plus_lit (by kernel_rfl) (by kernel_rfl) ?_
                    repeat (go_big_quiet_step (fail))
                    (refine wpQuiet_nil ?_; intro _ hw'; obtain ⟨xq, hw''⟩ := hw'; subst hw'')
                    go_wp2_with fail
                    go_roundg (W.length - (j + 1))
                    case rel => exact ⟨j + 1, Lib.hid ⟨by omega, by omega⟩, by go_num, (by repeat (with_reducible first | assumption | exact grA | apply grB | apply grC | apply grD | refine grE ?_ (by omega) _ | refine grF ?_ (by omega) _ _)), by simp [go_sem, hxj, zxj], HL2⟩
                    case measure => omega
                  · have hlt3 := hlt2
                    rw [haty, HAT.out] at hlt3
                    rw [decide_eq_false hlt3] at hbl
                    have HL2 : Hid (∀ v, W[j]? = some v → ¬ (atC l v).n < (atC l i1).n) := Lib.hid fun v hv => by
                      rw [HG.out] at hv; cases hv; exact hlt2
                    clear hcell el3 hgt el haty hlt2 hlt3 hgm em hbm hNl
                    obtain ⟨y0, y1, y2, y3, y4, y5, y6, y7⟩ := y
                    change Op.bytesLess y0.toList q0.toList = _ at hbl
                    go_upto_region 14 with fail
                    refine wp_region_plus_lit (by kernel_rfl) (by kernel_rfl) ?_
                    repeat (go_big_quiet_step (fail))
                    (refine wpQuiet_nil ?_; intro _ hw'; obtain ⟨xq, hw''⟩ := hw'; subst hw'')
                    go_wp2_with fail
                    refine wp_region_plus_seq (by kernel_rfl) (by kernel_rfl) (fun x0 => ?_)
                    repeat (any_goals (first | (refine wpSeqL_free rfl ?_; first | (go_big_quiet_skip; refine wpQuiet_nil ?_) | (go_big_quiet_step (fail); refine wpQuiet_nil ?_) | (refine wpQuiet_step (fun K hK => ?_); go_simp; split <;> (refine hK _ ?_; clear hK K; refine wpQuiet_nil ?_))) | (refine wpSeqL_link rfl (fun K hK => ?_); go_simp; first | first | (refine hK _ _ (by show World.grows _ _; repeat (first | assumption | exact grA | apply grB | apply grC | apply grD)) ?_; clear hK K) | ((fail); refine ⟨_, rfl, hK _ _ (by show World.grows _ _; repeat (first | assumption | exact grA | apply grB | apply grC | apply grD)) ?_⟩; clear hK K) | (split <;> (first | (refine hK _ _ (by show World.grows _ _; repeat (first | assumption | exact grA | apply grB | apply grC | apply grD)) ?_; clear hK K) | ((fail); refine ⟨_, rfl, hK _ _ (by show World.grows _ _; repeat (first | assumption | exact grA | apply grB | apply grC | apply grD)) ?_⟩; clear hK K))))))
                    refine wpSeqL_appFull rfl rfl (.tmp 72) (.tmp 75) 23 rfl 3 Try.underlying23 (by kernel_rfl) (l := [(i1 : Int)]) (r := W.drop j) rfl (SlAt_one (e := 3) (fr := (0, 0)) (by simp [go_sem])) rfl (IntsAt.grow (IntsAt.post HI.out (by omega)) (by repeat (with_reducible first | assumption | exact grA | apply grB | apply grC | apply grD | refine grE ?_ (by omega) _ | refine grF ?_ (by omega) _ _))) (by simp; omega) ?_
                    intro A' n' c' w' hn' hg' hI'
                    refine ⟨World.grows.trans (a := wr.plus xq) (by repeat (with_reducible first | assumption | exact grA | apply grB | apply grC | apply grD | refine grE ?_ (by omega) _ | refine grF ?_ (by omega) _ _)) hg', ?_⟩
                    have hgr' : wr.grows w' := World.grows.trans (by repeat (with_reducible first | assumption | exact grA | apply grB | apply grC | apply grD | refine grE ?_ (by omega) _ | refine grF ?_ (by omega) _ _)) hg'
                    have hgw' : w.grows w' := hgr.trans hgr'
                    go_simp
                    refine wpSeqL_appFull rfl rfl (.tmp 70) (.tmp 76) 23 rfl 3 Try.underlying23 (by kernel_rfl) (l := W.take j) (r := [(i1 : Int)] ++ W.drop j) rfl (IntsAt.grow (IntsAt.pre HI.out (by omega)) hgr') rfl hI'.out (by simp; omega) ?_
                    intro A2 n2 c2 w2 hn2 hg2 hI2
                    refine ⟨World.grows.trans (a := wr.plus xq) (World.grows.trans (a := wr.plus xq) (by repeat (with_reducible first | assumption | exact grA | apply grB | apply grC | apply grD | refine grE ?_ (by omega) _ | refine grF ?_ (by omega) _ _)) hg') hg2, ?_⟩
                    have hgw2 : w.grows w2 := hgw'.trans hg2
                    go_simp
                    repeat (any_goals (first | (refine wpSeqL_free rfl ?_; first | (go_big_quiet_skip; refine wpQuiet_nil ?_) | (go_big_quiet_step (fail); refine wpQuiet_nil ?_) | (refine wpQuiet_step (fun K hK => ?_); go_simp; split <;> (refine hK _ ?_; clear hK K; refine wpQuiet_nil ?_))) | (refine wpSeqL_link rfl (fun K hK => ?_); go_simp; first | first | (refine hK _ _ (by show World.grows _ _; repeat (first | assumption | exact grA | apply grB | apply grC | apply grD)) ?_; clear hK K) | ((fail); refine ⟨_, rfl, hK _ _ (by show World.grows _ _; repeat (first | assumption | exact grA | apply grB | apply grC | apply grD)) ?_⟩; clear hK K) | (split <;> (first | (refine hK _ _ (by show World.grows _ _; repeat (first | assumption | exact grA | apply grB | apply grC | apply grD)) ?_; clear hK K) | ((fail); refine ⟨_, rfl, hK _ _ (by show World.grows _ _; repeat (first | assumption | exact grA | apply grB | apply grC | apply grD)) ?_⟩; clear hK K))))))
                    refine wpSeqL_end ?_
                    go_wp2_with fail
                    go_roundg (k - (i1 + 1))
                    case rel => exact ⟨i1 + 1, W.take j ++ ([(i1 : Int)] ++ W.drop j), Lib.hid ⟨by omega, by omega, by simp; omega⟩, by go_num, hgw2, Lib.hid ⟨hI2.out, HW.out.2.put (by rw [← EN.out]; exact hlt) HB2.out (by omega) HL.out HL2.out⟩⟩
                    case measure => omega
                · obtain rfl : j = W.length := by omega
                  have n5 : ¬ (W.length : Int) < (W.length : Int) := by omega
                  go_upto_region 14 with fail
                  refine wp_region_plus_lit (by kernel_rfl) (by kernel_rfl) ?_
                  repeat (go_big_quiet_step (fail))
                  (refine wpQuiet_nil ?_; intro _ hw'; obtain ⟨xq, hw''⟩ := hw'; subst hw'')
                  go_wp2_with fail
                  rcases n3 with _ | ⟨g3, off3, sp3⟩
                  · refine wp_region_plus_seq (by kernel_rfl) (by kernel_rfl) (fun x0 => ?_)
                    repeat (any_goals (first | (refine wpSeqL_free rfl ?_; first | (go_big_quiet_skip; refine wpQuiet_nil ?_) | (go_big_quiet_step (fail); refine wpQuiet_nil ?_) | (refine wpQuiet_step (fun K hK => ?_); go_simp; split <;> (refine hK _ ?_; clear hK K; refine wpQuiet_nil ?_))) | (refine wpSeqL_link rfl (fun K hK => ?_); go_simp; first | first | (refine hK _ _ (by show World.grows _ _; repeat (first | assumption | exact grA | apply grB | apply grC | apply grD)) ?_; clear hK K) | ((fail); refine ⟨_, rfl, hK _ _ (by show World.grows _ _; repeat (first | assumption | exact grA | apply grB | apply grC | apply grD)) ?_⟩; clear hK K) | (split <;> (first | (refine hK _ _ (by show World.grows _ _; repeat (first | assumption | exact grA | apply grB | apply grC | apply grD)) ?_; clear hK K) | ((fail); refine ⟨_, rfl, hK _ _ (by show World.grows _ _; repeat (first | assumption | exact grA | apply grB | apply grC | apply grD)) ?_⟩; clear hK K))))))
                    have hI' := Lib.hid (SlAt_one (w := (((wr.plus xq).plus x0).alloc (.cells #[.int .i64 (i1 : Int)] 3))) (g := (wr.plus xq |>.plus x0).heap.size) (e := 3) (fr := (0, 0)) (x := (i1 : Int)) (by simp [go_sem]))
                    have hgr' : wr.grows (((wr.plus xq).plus x0).alloc (.cells #[.int .i64 (i1 : Int)] 3)) := (by repeat (with_reducible first | assumption | exact grA | apply grB | apply grC | apply grD | refine grE ?_ (by omega) _ | refine grF ?_ (by omega) _ _))
                    have hgw' := hgr.trans hgr'
                    have hg' : (wr.plus xq).grows (((wr.plus xq).plus x0).alloc (.cells #[.int .i64 (i1 : Int)] 3)) := (by repeat (with_reducible first | assumption | exact grA | apply grB | apply grC | apply grD | refine grE ?_ (by omega) _ | refine grF ?_ (by omega) _ _))
                    refine wpSeqL_appFull rfl rfl (.tmp 70) (.tmp 76) 23 rfl 3 Try.underlying23 (by kernel_rfl) (l := W) (r := [(i1 : Int)]) rfl (by have := IntsAt.grow (IntsAt.pre HI.out (Nat.le_refl _)) hgr'; rw [List.take_length] at this; exact this) rfl (by simpa using hI'.out) (by simp; omega) ?_
                    intro A2 n2 c2 w2 hn2 hg2 hI2
                    refine ⟨World.grows.trans (a := wr.plus xq) (World.grows.trans (a := wr.plus xq) (by repeat (with_reducible first | assumption | exact grA | apply grB | apply grC | apply grD | refine grE ?_ (by omega) _ | refine grF ?_ (by omega) _ _)) hg') hg2, ?_⟩
                    have hgw2 : w.grows w2 := hgw'.trans hg2
                    go_simp
                    repeat (any_goals (first | (refine wpSeqL_free rfl ?_; first | (go_big_quiet_skip; refine wpQuiet_nil ?_) | (go_big_quiet_step (fail); refine wpQuiet_nil ?_) | (refine wpQuiet_step (fun K hK => ?_); go_simp; split <;> (refine hK _ ?_; clear hK K; refine wpQuiet_nil ?_))) | (refine wpSeqL_link rfl (fun K hK => ?_); go_simp; first | first | (refine hK _ _ (by show World.grows _ _; repeat (first | assumption | exact grA | apply grB | apply grC | apply grD)) ?_; clear hK K) | ((fail); refine ⟨_, rfl, hK _ _ (by show World.grows _ _; repeat (first | assumption | exact grA | apply grB | apply grC | apply grD)) ?_⟩; clear hK K) | (split <;> (first | (refine hK _ _ (by show World.grows _ _; repeat (first | assumption | exact grA | apply grB | apply grC | apply grD)) ?_; clear hK K) | ((fail); refine ⟨_, rfl, hK _ _ (by show World.grows _ _; repeat (first | assumption | exact grA | apply grB | apply grC | apply grD)) ?_⟩; clear hK K))))))
                    refine wpSeqL_end ?_
                    go_wp2_with fail
                    go_roundg (k - (i1 + 1))
                    case rel => exact ⟨i1 + 1, W ++ [(i1 : Int)], Lib.hid ⟨by omega, by omega, by simp; omega⟩, by go_num, hgw2, Lib.hid ⟨hI2.out, by
                      have := HW.out.2.put (by rw [← EN.out]; exact hlt) HB2.out (Nat.le_refl _) HL.out fun v hv => by rw [List.getElem?_eq_none (Nat.le_refl _)] at hv; cases hv
                      rw [List.take_length, List.drop_length, List.append_nil] at this
                      exact this⟩⟩
                    case measure => omega
                  · by_cases hcw : c3 = W.length
                    · refine wp_region_plus_seq (by kernel_rfl) (by kernel_rfl) (fun x0 => ?_)
                      repeat (any_goals (first | (refine wpSeqL_free rfl ?_; first | (go_big_quiet_skip; refine wpQuiet_nil ?_) | (go_big_quiet_step (fail); refine wpQuiet_nil ?_) | (refine wpQuiet_step (fun K hK => ?_); go_simp; split <;> (refine hK _ ?_; clear hK K; refine wpQuiet_nil ?_))) | (refine wpSeqL_link rfl (fun K hK => ?_); go_simp; first | first | (refine hK _ _ (by show World.grows _ _; repeat (first | assumption | exact grA | apply grB | apply grC | apply grD)) ?_; clear hK K) | ((fail); refine ⟨_, rfl, hK _ _ (by show World.grows _ _; repeat (first | assumption | exact grA | apply grB | apply grC | apply grD)) ?_⟩; clear hK K) | (split <;> (first | (refine hK _ _ (by show World.grows _ _; repeat (first | assumption | exact grA | apply grB | apply grC | apply grD)) ?_; clear hK K) | ((fail); refine ⟨_, rfl, hK _ _ (by show World.grows _ _; repeat (first | assumption | exact grA | apply grB | apply grC | apply grD)) ?_⟩; clear hK K))))))
                      have hI' := Lib.hid (SlAt_one (w := (((wr.plus xq).plus x0).alloc (.cells #[.int .i64 (i1 : Int)] 3))) (g := (wr.plus xq |>.plus x0).heap.size) (e := 3) (fr := (0, 0)) (x := (i1 : Int)) (by simp [go_sem]))
                      have hgr' : wr.grows (((wr.plus xq).plus x0).alloc (.cells #[.int .i64 (i1 : Int)] 3)) := (by repeat (with_reducible first | assumption | exact grA | apply grB | apply grC | apply grD | refine grE ?_ (by omega) _ | refine grF ?_ (by omega) _ _))
                      have hgw' := hgr.trans hgr'
                      have hg' : (wr.plus xq).grows (((wr.plus xq).plus x0).alloc (.cells #[.int .i64 (i1 : Int)] 3)) := (by repeat (with_reducible first | assumption | exact grA | apply grB | apply grC | apply grD | refine grE ?_ (by omega) _ | refine grF ?_ (by omega) _ _))
                      refine wpSeqL_appFull rfl rfl (.tmp 70) (.tmp 76) 23 rfl 3 Try.underlying23 (by kernel_rfl) (l := W) (r := [(i1 : Int)]) rfl (by have := IntsAt.grow (IntsAt.pre HI.out (Nat.le_refl _)) hgr'; rw [List.take_length] at this; exact this) rfl (by simpa using hI'.out) (by simp; omega) ?_
                      intro A2 n2 c2 w2 hn2 hg2 hI2
                      refine ⟨World.grows.trans (a := wr.plus xq) (World.grows.trans (a := wr.plus xq) (by repeat (with_reducible first | assumption | exact grA | apply grB | apply grC | apply grD | refine grE ?_ (by omega) _ | refine grF ?_ (by omega) _ _)) hg') hg2, ?_⟩
                      have hgw2 : w.grows w2 := hgw'.trans hg2
                      go_simp
                      repeat (any_goals (first | (refine wpSeqL_free rfl ?_; first | (go_big_quiet_skip; refine wpQuiet_nil ?_) | (go_big_quiet_step (fail); refine wpQuiet_nil ?_) | (refine wpQuiet_step (fun K hK => ?_); go_simp; split <;> (refine hK _ ?_; clear hK K; refine wpQuiet_nil ?_))) | (refine wpSeqL_link rfl (fun K hK => ?_); go_simp; first | first | (refine hK _ _ (by show World.grows _ _; repeat (first | assumption | exact grA | apply grB | apply grC | apply grD)) ?_; clear hK K) | ((fail); refine ⟨_, rfl, hK _ _ (by show World.grows _ _; repeat (first | assumption | exact grA | apply grB | apply grC | apply grD)) ?_⟩; clear hK K) | (split <;> (first | (refine hK _ _ (by show World.grows _ _; repeat (first | assumption | exact grA | apply grB | apply grC | apply grD)) ?_; clear hK K) | ((fail); refine ⟨_, rfl, hK _ _ (by show World.grows _ _; repeat (first | assumption | exact grA | apply grB | apply grC | apply grD)) ?_⟩; clear hK K))))))
                      refine wpSeqL_end ?_
                      go_wp2_with fail
                      go_roundg (k - (i1 + 1))
                      case rel => exact ⟨i1 + 1, W ++ [(i1 : Int)], Lib.hid ⟨by omega, by omega, by simp; omega⟩, by go_num, hgw2, Lib.hid ⟨hI2.out, by
                        have := HW.out.2.put (by rw [← EN.out]; exact hlt) HB2.out (Nat.le_refl _) HL.out fun v hv => by rw [List.getElem?_eq_none (Nat.le_refl _)] at hv; cases hv
                        rw [List.take_length, List.drop_length, List.append_nil] at this
                        exact this⟩⟩
                      case measure => omega
                    · refine wp_region_plus_seq (by kernel_rfl) (by kernel_rfl) (fun x0 => ?_)
                      repeat (any_goals (first | (refine wpSeqL_free rfl ?_; first | (go_big_quiet_skip; refine wpQuiet_nil ?_) | (go_big_quiet_step (fail); refine wpQuiet_nil ?_) | (refine wpQuiet_step (fun K hK => ?_); go_simp; split <;> (refine hK _ ?_; clear hK K; refine wpQuiet_nil ?_))) | (refine wpSeqL_link rfl (fun K hK => ?_); go_simp; first | first | (refine hK _ _ (by show World.grows _ _; repeat (first | assumption | exact grA | apply grB | apply grC | apply grD)) ?_; clear hK K) | ((fail); refine ⟨_, rfl, hK _ _ (by show World.grows _ _; repeat (first | assumption | exact grA | apply grB | apply grC | apply grD)) ?_⟩; clear hK K) | (split <;> (first | (refine hK _ _ (by show World.grows _ _; repeat (first | assumption | exact grA | apply grB | apply grC | apply grD)) ?_; clear hK K) | ((fail); refine ⟨_, rfl, hK _ _ (by show World.grows _ _; repeat (first | assumption | exact grA | apply grB | apply grC | apply grD)) ?_⟩; clear hK K))))))
                      have hI' := Lib.hid (SlAt_one (w := (((wr.plus xq).plus x0).alloc (.cells #[.int .i64 (i1 : Int)] 3))) (g := (wr.plus xq |>.plus x0).heap.size) (e := 3) (fr := (0, 0)) (x := (i1 : Int)) (by simp [go_sem]))
                      have hgr' : wr.grows (((wr.plus xq).plus x0).alloc (.cells #[.int .i64 (i1 : Int)] 3)) := (by repeat (with_reducible first | assumption | exact grA | apply grB | apply grC | apply grD | refine grE ?_ (by omega) _ | refine grF ?_ (by omega) _ _))
                      have hgw' := hgr.trans hgr'
                      have hg' : (wr.plus xq).grows (((wr.plus xq).plus x0).alloc (.cells #[.int .i64 (i1 : Int)] 3)) := (by repeat (with_reducible first | assumption | exact grA | apply grB | apply grC | apply grD | refine grE ?_ (by omega) _ | refine grF ?_ (by omega) _ _))
                      refine wpSeqL_appFull rfl rfl (.tmp 70) (.tmp 76) 23 rfl 3 Try.underlying23 (by kernel_rfl) (l := W) (r := [(i1 : Int)]) rfl (by have := IntsAt.grow (IntsAt.pre HI.out (Nat.le_refl _)) hgr'; rw [List.take_length] at this; exact this) rfl (by simpa using hI'.out) (by simp; omega) ?_
                      intro A2 n2 c2 w2 hn2 hg2 hI2
                      refine ⟨World.grows.trans (a := wr.plus xq) (World.grows.trans (a := wr.plus xq) (by repeat (with_reducible first | assumption | exact grA | apply grB | apply grC | apply grD | refine grE ?_ (by omega) _ | refine grF ?_ (by omega) _ _)) hg') hg2, ?_⟩
                      have hgw2 : w.grows w2 := hgw'.trans hg2
                      go_simp
                      repeat (any_goals (first | (refine wpSeqL_free rfl ?_; first | (go_big_quiet_skip; refine wpQuiet_nil ?_) | (go_big_quiet_step (fail); refine wpQuiet_nil ?_) | (refine wpQuiet_step (fun K hK => ?_); go_simp; split <;> (refine hK _ ?_; clear hK K; refine wpQuiet_nil ?_))) | (refine wpSeqL_link rfl (fun K hK => ?_); go_simp; first | first | (refine hK _ _ (by show World.grows _ _; repeat (first | assumption | exact grA | apply grB | apply grC | apply grD)) ?_; clear hK K) | ((fail); refine ⟨_, rfl, hK _ _ (by show World.grows _ _; repeat (first | assumption | exact grA | apply grB | apply grC | apply grD)) ?_⟩; clear hK K) | (split <;> (first | (refine hK _ _ (by show World.grows _ _; repeat (first | assumption | exact grA | apply grB | apply grC | apply grD)) ?_; clear hK K) | ((fail); refine ⟨_, rfl, hK _ _ (by show World.grows _ _; repeat (first | assumption | exact grA | apply grB | apply grC | apply grD)) ?_⟩; clear hK K))))))
                      refine wpSeqL_end ?_
                      go_wp2_with fail
                      go_roundg (k - (i1 + 1))
                      case rel => exact ⟨i1 + 1, W ++ [(i1 : Int)], Lib.hid ⟨by omega, by omega, by simp; omega⟩, by go_num, hgw2, Lib.hid ⟨hI2.out, by
                        have := HW.out.2.put (by rw [← EN.out]; exact hlt) HB2.out (Nat.le_refl _) HL.out fun v hv => by rw [List.getElem?_eq_none (Nat.le_refl _)] at hv; cases hv
                        rw [List.take_length, List.drop_length, List.append_nil] at this
                        exact this⟩⟩
                      case measure => omega
      · have n1 : ¬ (i1 : Int) < (N : Int) := by omega
        obtain rfl : i1 = N := by omega
        go_wp2_with fail
        go_ret
        refine ⟨_, rfl, hg, ?_⟩
        have := HW.out.2
        rw [EN.out] at this
        rw [← this.wins HV.out]; exact HW.out.1
  exact key _ rfl h1 hN
end Go.Proofs.Ytajkfmnnokkcaaa

/- PointBetween is true for every input: where no place lies between two values nothing turns. No condition. (printed by mkbetw.py) -/
import Derived.Test.YtjfccilmlmimaaaWaysP
import Derived.Test.YtjfccilmlmimaaaPlc
import Derived.Test.YtjfccilmlmimaaaArgsL
import Derived.Test.YtjfccilmlmimaaaRows
set_option linter.unusedSimpArgs false
set_option linter.unusedVariables false
namespace Go.Proofs.Ytjfccilmlmimaaa
open Go.RowKit Go.Maps Go.ChangeShapes Go.WideShapes Go.ChangeAt
open Go.ChangeMaps (open_string shut_string)

theorem refCmp3 (a b c d : Int) (w : World) (wa : I64 a) (wb : I64 b) (wc : I64 c) (wd : I64 d) : Calls Try.prog 18 #[.agg #[.int .i64 a, .int .i64 b], .agg #[.int .i64 c, .int .i64 d]] w (Gives w (.tuple #[.int .i64 (if both a b c d = true then cmpI a b c d else 0), .bool (both a b c d)])) := by
  have := refCmp_any a b c d w wa wb wc wd
  unfold cmpV at this
  unfold both
  cases h : (sureB a b && sureB c d) <;> simpa [h] using this
/-- does a place lie between two values? -/
def liesB (a b c d : Int) (r : Int × Int) : Prop := (if both a b r.1 r.2 = true then cmpI a b r.1 r.2 else 0) ≤ 0 ∧ (if both r.1 r.2 c d = true then cmpI r.1 r.2 c d else 0) ≤ 0
/-- where no place lies between two values nothing turns -/
theorem none_turns {nm : ByteArray} {a b c d : Int} {l p : List Ln} (hS : Srt (ofN l l.length nm.data.toList) p) (hb : both a b c d = true) (hle : cmpI a b c d ≤ 0) (hno : ∀ r ∈ plcs p, ¬ liesB a b c d r) : idsOf (flipR nm a b c d) l = [] := by
  refine List.eq_nil_iff_forall_not_mem.2 fun z hz => ?_
  have hz := (idsOf_of hS (fun x => not_sure_flip) z).2 hz
  obtain ⟨x, h1, h2, h3⟩ := idsOf_mem.1 hz
  have hsx := ofN_sure hS x h1
  obtain ⟨s1, s2⟩ := both_yes.1 hb
  have q1 := (sureB_yes s1).1
  have q2 := (sureB_yes s2).1
  have qx := (sureB_yes hsx).1
  by_cases h0 : cmpI a b c d = 0
  · rw [no_flip_spot hb qx hsx q1 q2 h0] at h2; cases h2
  · have hlt : cmpI a b c d < 0 := by omega
    refine hno x.at2 ((plcs_mem p).2 ⟨x, h1, rfl⟩) ⟨?_, ?_⟩
    · show (if both a b x.p x.q = true then cmpI a b x.p x.q else 0) ≤ 0
      rw [if_pos (both_yes.2 ⟨s1, hsx⟩)]
      cases hA : aheadA a b x with
      | true => rw [no_flip_low hb hsx qx q1 q2 hlt hA] at h2; cases h2
      | false =>
        unfold aheadA befI at hA
        rw [if_pos (both_yes.2 ⟨hsx, s1⟩)] at hA
        have hA : ¬ cmpI x.p x.q a b < 0 := by simpa using hA
        have e1 := @cmpI_gt a b x.p x.q
        have e2 := @cmpI_lt x.p x.q a b
        omega
    · show (if both x.p x.q c d = true then cmpI x.p x.q c d else 0) ≤ 0
      rw [if_pos (both_yes.2 ⟨hsx, s2⟩)]
      cases hB : aheadB c d x with
      | false => rw [no_flip_high hb hsx qx q1 q2 hlt hB] at h2; cases h2
      | true =>
        unfold aheadB befI at hB
        rw [if_pos (both_yes.2 ⟨hsx, s2⟩)] at hB
        simpa using hB

set_option maxRecDepth 100000 in
set_option maxHeartbeats 8000000 in
theorem betwNo_any (v : Value) (l : List Ln) (nm : ByteArray) (a b c d : Int) (w : World) (h : SlAt w (fun _ => True) 5 LnR v l) (hs : nm.size ≤ maxLen) (wa : I64 a) (wb : I64 b) (wc : I64 c) (wd : I64 d) (hb : both a b c d = false) :
    Calls Try.prog 8 #[v, .string nm, .agg #[.int .i64 a, .int .i64 b], .agg #[.int .i64 c, .int .i64 d]] w (Gives w (.bool true)) := by
  have hl : (l.take 200).length ≤ 200 := by simp; omega
  have hwf : AllWf (l.take 200) := fun x hx => lines_wf h x (List.mem_of_mem_take hx)
  have c0 : ∀ W, w.grows W → Calls Try.prog 10 #[v] W fun e w' => ∃ v', e = .returned v' ∧ w' = W ∧ Hid (SlAt W (fun _ => True) 5 LnR v' (l.take 200)) := fun W hg => (cut_any v l W (h.grows hg fun _ _ _ h => h)).mono fun e w' ⟨v', q1, q2, q3⟩ => ⟨v', q1, q2, Lib.hid q3⟩
  generalize l.take 200 = L at *
  have c1 : ∀ W v', SlAt W (fun _ => True) 5 LnR v' L → Calls Try.prog 12 #[v'] W fun e w' => ∃ ix B, e = .returned (.pointer (some ⟨ix, 0, none⟩)) ∧ W.heap.size < ix ∧ W.heap.size + 2 ≤ B ∧ W.grows w' ∧ Hid (Idx w' ix 0 B L) := fun W v' h => (ixNew2_any v' _ W h (by omega)).mono fun e w' ⟨ix, B, q1, q2, q3, q4, q5⟩ => ⟨ix, B, q1, q2, q3, q4, Lib.hid q5⟩
  have c2 := fun ix B => ixC ix B L nm hwf hs (by omega)
  have c4 : ∀ W ix B, Idx W ix 0 B L → Calls Try.prog 19 #[.pointer (some ⟨ix, 0, none⟩), .string nm] W fun e w' => ∃ v2 p, e = .returned v2 ∧ W.grows w' ∧ Hid (SlAt w' (fun _ => True) 2 RtR v2 (plcs p) ∧ Srt (ofN L L.length nm.data.toList) p) := fun W ix B hI => (ptPlaces_any ix B 0 L nm W hI hwf hs (by omega)).mono fun e w' ⟨v2, p, q1, q2, q3, q4⟩ => ⟨v2, p, q1, q2, Lib.hid ⟨q3, q4⟩⟩
  have k1 := fun W => refCmp3 a b c d W wa wb wc wd
  rw [hb, if_neg (by simp)] at k1
  have C0 := Lib.hid c0; have C1 := Lib.hid c1; have C2 := Lib.hid c2; have C4 := Lib.hid c4; have K1 := Lib.hid k1; have HWF := Lib.hid hwf
  have WA := Lib.hid wa; have WB := Lib.hid wb; have WCC := Lib.hid wc; have WD := Lib.hid wd; have HL := Lib.hid hl
  clear c0 c1 c2 c4 k1 h hwf wa wb wc wd hl hb
  go_enter Try.func8, Try.ntmps8
  go_wp2_with (first
    | (go_at_call 10; (with_reducible refine (C0.out _ (by repeat (with_reducible first | assumption | exact grA | apply grB | apply grC | apply grD | refine grE ?_ (by omega) _ | refine grF ?_ (by omega) _ _))).mono ?_); rintro e w1 ⟨v1, rfl, rfl, H1⟩)
    | (go_at_call 12; (with_reducible refine (C1.out _ _ H1.out).mono ?_); rintro e w2 ⟨ix, B, rfl, hix, hB2, hg2, HI⟩; have k2 : w.grows w2 := World.grows.trans (by repeat (with_reducible first | assumption | exact grA | apply grB | apply grC | apply grD | refine grE ?_ (by omega) _ | refine grF ?_ (by omega) _ _)) hg2; have r7 : w2.row w.heap.size = some (.cells #[.int .i64 a, .int .i64 b] 24) := (hg2.row_eq (by simp <;> omega)).trans (by simp [go_sem]); have r8 : w2.row (w.heap.size + 1) = some (.cells #[.int .i64 c, .int .i64 d] 24) := (hg2.row_eq (by simp <;> omega)).trans (by simp [go_sem]); have z7 := row_sz' r7; have z8 := row_sz' r8)
    | (go_at_call 18; (with_reducible refine (K1.out _).mono ?_); rintro e w1 ⟨rfl, x1, rfl⟩)
    | (go_at_call 16; (with_reducible refine (awake24_any _).mono ?_); rintro e w7 ⟨rfl, x7, rfl⟩))
  go_ret
  exact ⟨rfl, (by repeat (with_reducible first | assumption | exact grA | apply grB | apply grC | apply grD | refine grE ?_ (by omega) _ | refine grF ?_ (by omega) _ _))⟩

set_option maxRecDepth 100000 in
set_option maxHeartbeats 8000000 in
theorem betwLe_any (v : Value) (l : List Ln) (nm : ByteArray) (a b c d : Int) (w : World) (h : SlAt w (fun _ => True) 5 LnR v l) (hs : nm.size ≤ maxLen) (wa : I64 a) (wb : I64 b) (wc : I64 c) (wd : I64 d) (hb : both a b c d = true) (hk : cmpI a b c d ≤ 0) :
    Calls Try.prog 8 #[v, .string nm, .agg #[.int .i64 a, .int .i64 b], .agg #[.int .i64 c, .int .i64 d]] w (Gives w (.bool true)) := by
  have hl : (l.take 200).length ≤ 200 := by simp; omega
  have hwf : AllWf (l.take 200) := fun x hx => lines_wf h x (List.mem_of_mem_take hx)
  have c0 : ∀ W, w.grows W → Calls Try.prog 10 #[v] W fun e w' => ∃ v', e = .returned v' ∧ w' = W ∧ Hid (SlAt W (fun _ => True) 5 LnR v' (l.take 200)) := fun W hg => (cut_any v l W (h.grows hg fun _ _ _ h => h)).mono fun e w' ⟨v', q1, q2, q3⟩ => ⟨v', q1, q2, Lib.hid q3⟩
  generalize l.take 200 = L at *
  have c1 : ∀ W v', SlAt W (fun _ => True) 5 LnR v' L → Calls Try.prog 12 #[v'] W fun e w' => ∃ ix B, e = .returned (.pointer (some ⟨ix, 0, none⟩)) ∧ W.heap.size < ix ∧ W.heap.size + 2 ≤ B ∧ W.grows w' ∧ Hid (Idx w' ix 0 B L) := fun W v' h => (ixNew2_any v' _ W h (by omega)).mono fun e w' ⟨ix, B, q1, q2, q3, q4, q5⟩ => ⟨ix, B, q1, q2, q3, q4, Lib.hid q5⟩
  have c2 := fun ix B => ixC ix B L nm hwf hs (by omega)
  have c4 : ∀ W ix B, Idx W ix 0 B L → Calls Try.prog 19 #[.pointer (some ⟨ix, 0, none⟩), .string nm] W fun e w' => ∃ v2 p, e = .returned v2 ∧ W.grows w' ∧ Hid (SlAt w' (fun _ => True) 2 RtR v2 (plcs p) ∧ Srt (ofN L L.length nm.data.toList) p) := fun W ix B hI => (ptPlaces_any ix B 0 L nm W hI hwf hs (by omega)).mono fun e w' ⟨v2, p, q1, q2, q3, q4⟩ => ⟨v2, p, q1, q2, Lib.hid ⟨q3, q4⟩⟩
  have k1 := fun W => refCmp3 a b c d W wa wb wc wd
  rw [hb, if_pos rfl] at k1
  have HB := Lib.hid hb
  have HKK := Lib.hid hk
  have n1 : ¬ 0 < cmpI a b c d := by omega
  generalize hcc : cmpI a b c d = cc at *
  have HCC := Lib.hid hcc
  clear hcc
  have C0 := Lib.hid c0; have C1 := Lib.hid c1; have C2 := Lib.hid c2; have C4 := Lib.hid c4; have K1 := Lib.hid k1; have HWF := Lib.hid hwf
  have WA := Lib.hid wa; have WB := Lib.hid wb; have WCC := Lib.hid wc; have WD := Lib.hid wd; have HL := Lib.hid hl
  clear c0 c1 c2 c4 k1 h hwf wa wb wc wd hl hb
  go_enter Try.func8, Try.ntmps8
  go_upto_region 2 with (first
    | (go_at_call 10; (with_reducible refine (C0.out _ (by repeat (with_reducible first | assumption | exact grA | apply grB | apply grC | apply grD | refine grE ?_ (by omega) _ | refine grF ?_ (by omega) _ _))).mono ?_); rintro e w1 ⟨v1, rfl, rfl, H1⟩)
    | (go_at_call 12; (with_reducible refine (C1.out _ _ H1.out).mono ?_); rintro e w2 ⟨ix, B, rfl, hix, hB2, hg2, HI⟩))
  have k2 : w.grows w2 := World.grows.trans (by repeat (with_reducible first | assumption | exact grA | apply grB | apply grC | apply grD | refine grE ?_ (by omega) _ | refine grF ?_ (by omega) _ _)) hg2
  have kx : w.heap.size + 2 ≤ ix := by simp at hix; omega
  have kB : w.heap.size + 4 ≤ B := by simp at hB2; omega
  have r7 : w2.row w.heap.size = some (.cells #[.int .i64 a, .int .i64 b] 24) := (hg2.row_eq (by simp <;> omega)).trans (by simp [go_sem])
  have r8 : w2.row (w.heap.size + 1) = some (.cells #[.int .i64 c, .int .i64 d] 24) := (hg2.row_eq (by simp <;> omega)).trans (by simp [go_sem])
  have z7 := row_sz' r7; have z8 := row_sz' r8
  have HX := Lib.hid (C2.out ix B)
  obtain ⟨mb, hxrow⟩ := idx_seg HI.out
  have hixs := (row_sz' hxrow).1
  clear H1 hg2 hix hxrow hB2
  go_upto_region 7 with (go_at_call 18; (with_reducible refine (K1.out _).mono ?_); rintro e w1 ⟨rfl, x1, rfl⟩)
  have hb6 : (w2.plus x1).row w.heap.size = some (.cells #[.int .i64 a, .int .i64 b] 24) := by simp [go_sem, r7, z7]
  have hb7 : (w2.plus x1).row (w.heap.size + 1) = some (.cells #[.int .i64 c, .int .i64 d] 24) := by simp [go_sem, r8, z8]
  have HI3 := Lib.hid (Idx.grows (W := w2.plus x1) HI.out (by repeat (with_reducible first | assumption | exact grA | apply grB | apply grC | apply grD | refine grE ?_ (by omega) _ | refine grF ?_ (by omega) _ _)))
  have k3 : w.grows (w2.plus x1) := (by repeat (with_reducible first | assumption | exact grA | apply grB | apply grC | apply grD | refine grE ?_ (by omega) _ | refine grF ?_ (by omega) _ _))
  generalize w2.plus x1 = w3 at *
  have z6 := row_sz' hb6; have z7' := row_sz' hb7
  go_upto_region 8 with (go_at_call 19; go_loud ((with_reducible refine (C4.out _ ix B HI3.out).mono ?_); rintro e w4 ⟨v4, p, rfl, hg4, HP⟩; obtain ⟨aP, cP, rfl, _, _⟩ := HP.out.1.len))
  have k4 : w.grows w4 := k3.trans hg4
  have h46 := (hg4.row_eq z6.1).trans hb6
  have h47 := (hg4.row_eq z7'.1).trans hb7
  have z46 := row_sz' h46; have z47 := row_sz' h47
  have hwp : ∀ r ∈ plcs p, I64 r.1 ∧ I64 r.2 := fun r hr => by
    obtain ⟨x, hx, rfl⟩ := (plcs_mem p).1 hr
    have := HWF.out x (ofN_mem.1 ((Srt.mem HP.out.2 x).1 hx)).1
    exact ⟨this.2.2.1, this.2.2.2.1⟩
  have HWP := Lib.hid hwp
  have hpl : (plcs p).length ≤ 200 := by
    have e1 := plcs_len p p.length
    rw [List.take_length] at e1
    have e2 := HP.out.2.len
    have e3 : (ofN L L.length nm.data.toList).length ≤ L.length := by unfold ofN; exact Nat.le_trans (List.length_filter_le _ _) (by simp)
    have e4 := HL.out
    omega
  have HSL := Lib.hid HP.out.1
  have hfin : (∀ r ∈ plcs p, ¬ liesB a b c d r) → idsOf (flipR nm a b c d) L = [] := fun hno => none_turns HP.out.2 HB.out (by have := HKK.out; have := HCC.out; omega) hno
  have HFIN := Lib.hid hfin
  clear hwp hfin HP hb6 hb7 z6 z7'
  generalize plcs p = PR at *
  go_loopg [38] PR.length (fun gn v38 wj => ∃ i : Nat, Hid (gn + i = PR.length ∧ i ≤ PR.length) ∧ v38 = .int .i64 i ∧ w4.grows wj ∧ Hid (∀ j r, j < i → PR[j]? = some r → ¬ liesB a b c d r))
  case atStart => exact ⟨0, Lib.hid ⟨by simp, Nat.zero_le _⟩, by go_num, (by repeat (with_reducible first | assumption | exact grA | apply grB | apply grC | apply grD | refine grE ?_ (by omega) _ | refine grF ?_ (by omega) _ _)), Lib.hid fun j r hj => by omega⟩
  case round =>
    obtain ⟨i, HK, rfl, hgj, HNO⟩ := hrel
    obtain ⟨j1, j2⟩ := HK.out
    have h56 := (hgj.row_eq z46.1).trans h46
    have h57 := (hgj.row_eq z47.1).trans h47
    have z56 := row_sz' h56; have z57 := row_sz' h57
    by_cases hlt : i < PR.length
    · have i1 : (i : Int) < (PR.length : Int) := by omega
      have hgt := List.getElem?_eq_getElem hlt
      have hwr := HWP.out _ (List.getElem_mem hlt)
      obtain ⟨_, _, e4, _, _, b5⟩ := HSL.out
      injection e4 with e4 e5 e6
      clear e5
      subst e4; subst e6
      rcases b5 with h0 | ⟨g, off, rfl, _, h4⟩
      · rw [h0] at hlt; simp at hlt
      obtain ⟨cs, _, el, rfl⟩ := h4 i _ hgt
      have el2 := el.grows hgj
      generalize PR[i] = r at *
      have e1 : segOk (off + i * 2) 2 (wr.row g) = true := el2.1
      have e2 : segV (off + i * 2) 2 (wr.row g) = .agg #[.int .i64 r.1, .int .i64 r.2] := el2.2
      have zg := lt_sz el2.lt
      have kk1 := fun W => refCmp3 a b r.1 r.2 W WA.out WB.out hwr.1 hwr.2
      have kk2 := fun W => refCmp3 r.1 r.2 c d W hwr.1 hwr.2 WCC.out WD.out
      have hlies : ∀ U V : Int, U = (if both a b r.1 r.2 = true then cmpI a b r.1 r.2 else 0) → V = (if both r.1 r.2 c d = true then cmpI r.1 r.2 c d else 0) → ¬ (U ≤ 0 ∧ V ≤ 0) → Hid (∀ j r', j < i + 1 → PR[j]? = some r' → ¬ liesB a b c d r') := fun U V hU hV hn => Lib.hid fun j r' hj hr => by
        by_cases e : j = i
        · subst e; rw [hgt] at hr; cases hr; unfold liesB; rw [← hU, ← hV]; exact hn
        · exact HNO.out j r' (by omega) hr
      have HLIES := Lib.hid (hlies _ _ rfl rfl)
      clear hlies el el2 h4 hgt hwr
      obtain ⟨r1, r2⟩ := r
      simp only at kk1 kk2 e2
      generalize both a b r1 r2 = P1 at *
      generalize both r1 r2 c d = P2 at *
      generalize (if P1 = true then cmpI a b r1 r2 else 0) = U at *
      generalize (if P2 = true then cmpI r1 r2 c d else 0) = V at *
      have KK1 := Lib.hid kk1; have KK2 := Lib.hid kk2
      clear kk1 kk2
      by_cases h1 : U ≤ 0
      · by_cases h2 : V ≤ 0
        · have kwr : w.grows wr := k4.trans hgj
          go_wp2_with (first | (go_at_call 18; (with_reducible refine (KK1.out _).mono ?_); rintro e w1 ⟨rfl, x1, rfl⟩) | (go_at_call 18; (with_reducible refine (KK2.out _).mono ?_); rintro e w1 ⟨rfl, x1, rfl⟩) | (go_at_call 16; (with_reducible refine (awake24_any _).mono ?_); rintro e w9 ⟨rfl, x9, rfl⟩))
          go_ret
          exact ⟨rfl, (by repeat (with_reducible first | assumption | exact grA | apply grB | apply grC | apply grD | refine grE ?_ (by omega) _ | refine grF ?_ (by omega) _ _))⟩
        · have HN := Lib.hid (HLIES.out fun h => h2 h.2)
          go_wp2_with (first | (go_at_call 18; (with_reducible refine (KK1.out _).mono ?_); rintro e w1 ⟨rfl, x1, rfl⟩) | (go_at_call 18; (with_reducible refine (KK2.out _).mono ?_); rintro e w1 ⟨rfl, x1, rfl⟩))
          go_roundg (PR.length - (i + 1))
          case rel => exact ⟨i + 1, Lib.hid ⟨by omega, by omega⟩, by go_num, (by repeat (with_reducible first | assumption | exact grA | apply grB | apply grC | apply grD | refine grE ?_ (by omega) _ | refine grF ?_ (by omega) _ _)), HN.out⟩
          case measure => omega
      · have HN := Lib.hid (HLIES.out fun h => h1 h.1)
        go_wp2_with (first | (go_at_call 18; (with_reducible refine (KK1.out _).mono ?_); rintro e w1 ⟨rfl, x1, rfl⟩) | (go_at_call 18; (with_reducible refine (KK2.out _).mono ?_); rintro e w1 ⟨rfl, x1, rfl⟩))
        go_roundg (PR.length - (i + 1))
        case rel => exact ⟨i + 1, Lib.hid ⟨by omega, by omega⟩, by go_num, (by repeat (with_reducible first | assumption | exact grA | apply grB | apply grC | apply grD | refine grE ?_ (by omega) _ | refine grF ?_ (by omega) _ _)), HN.out⟩
        case measure => omega
    · have i1 : ¬ (i : Int) < (PR.length : Int) := by omega
      obtain rfl : i = PR.length := by omega
      have hnone := HFIN.out fun r hr => by
        obtain ⟨j, hj, e⟩ := List.mem_iff_getElem.1 hr
        exact HNO.out j r hj (by rw [List.getElem?_eq_getElem hj, e])
      have w3r : w3.grows wr := hg4.trans hgj
      have kwr : w.grows wr := k4.trans hgj
      have fl := HX.out.flips a b c d wr 0 WA.out WB.out WCC.out WD.out (Idx.grows HI3.out w3r) (by omega) (by omega)
      have cr := fun W n => HX.out.cross c d a b W n WCC.out WD.out WA.out WB.out
      rw [flipR_swap, hnone] at cr
      rw [hnone] at fl
      have FL := Lib.hid fl; have CR := Lib.hid cr
      clear fl cr hnone
      go_wp2_with (first
        | (go_at_call 14; go_loud ((with_reducible refine FL.out.mono ?_); rintro e w5 ⟨v5, r5, n5, rfl, o5, H5⟩; obtain rfl : r5 = [] := H5.out.2.2.2.2.uniq rise_nil; obtain ⟨a5, c5, rfl, _, _⟩ := H5.out.2.2.2.1.at.len; have h66 := (o5.row _ (by omega) z56.1).trans h56; have h67 := (o5.row _ (by omega) z57.1).trans h57; have z66 := row_sz' h66; have z67 := row_sz' h67; have k5 : w.grows w5 := o5.gr w (by omega) kwr))
        | (go_at_call 15; go_loud ((with_reducible refine (CR.out _ n5 (Idx.grows H5.out.1 (by repeat (with_reducible first | assumption | exact grA | apply grB | apply grC | apply grD | refine grE ?_ (by omega) _ | refine grF ?_ (by omega) _ _))) H5.out.2.1 (by have := H5.out.2.2.1; have := HL.out; omega)).mono ?_); rintro e w6 ⟨n6, rfl, o6, H6⟩; have k6 : w.grows w6 := o6.gr w (by omega) k5))
        | (go_at_call 16; (with_reducible refine (awake24_any _).mono ?_); rintro e w9 ⟨rfl, x9, rfl⟩))
      go_ret
      exact ⟨rfl, (by repeat (with_reducible first | assumption | exact grA | apply grB | apply grC | apply grD | refine grE ?_ (by omega) _ | refine grF ?_ (by omega) _ _))⟩

set_option maxRecDepth 100000 in
set_option maxHeartbeats 8000000 in
theorem betwGt_any (v : Value) (l : List Ln) (nm : ByteArray) (a b c d : Int) (w : World) (h : SlAt w (fun _ => True) 5 LnR v l) (hs : nm.size ≤ maxLen) (wa : I64 a) (wb : I64 b) (wc : I64 c) (wd : I64 d) (hb : both a b c d = true) (hk : 0 < cmpI a b c d) :
    Calls Try.prog 8 #[v, .string nm, .agg #[.int .i64 a, .int .i64 b], .agg #[.int .i64 c, .int .i64 d]] w (Gives w (.bool true)) := by
  have hl : (l.take 200).length ≤ 200 := by simp; omega
  have hwf : AllWf (l.take 200) := fun x hx => lines_wf h x (List.mem_of_mem_take hx)
  have c0 : ∀ W, w.grows W → Calls Try.prog 10 #[v] W fun e w' => ∃ v', e = .returned v' ∧ w' = W ∧ Hid (SlAt W (fun _ => True) 5 LnR v' (l.take 200)) := fun W hg => (cut_any v l W (h.grows hg fun _ _ _ h => h)).mono fun e w' ⟨v', q1, q2, q3⟩ => ⟨v', q1, q2, Lib.hid q3⟩
  generalize l.take 200 = L at *
  have c1 : ∀ W v', SlAt W (fun _ => True) 5 LnR v' L → Calls Try.prog 12 #[v'] W fun e w' => ∃ ix B, e = .returned (.pointer (some ⟨ix, 0, none⟩)) ∧ W.heap.size < ix ∧ W.heap.size + 2 ≤ B ∧ W.grows w' ∧ Hid (Idx w' ix 0 B L) := fun W v' h => (ixNew2_any v' _ W h (by omega)).mono fun e w' ⟨ix, B, q1, q2, q3, q4, q5⟩ => ⟨ix, B, q1, q2, q3, q4, Lib.hid q5⟩
  have c2 := fun ix B => ixC ix B L nm hwf hs (by omega)
  have c4 : ∀ W ix B, Idx W ix 0 B L → Calls Try.prog 19 #[.pointer (some ⟨ix, 0, none⟩), .string nm] W fun e w' => ∃ v2 p, e = .returned v2 ∧ W.grows w' ∧ Hid (SlAt w' (fun _ => True) 2 RtR v2 (plcs p) ∧ Srt (ofN L L.length nm.data.toList) p) := fun W ix B hI => (ptPlaces_any ix B 0 L nm W hI hwf hs (by omega)).mono fun e w' ⟨v2, p, q1, q2, q3, q4⟩ => ⟨v2, p, q1, q2, Lib.hid ⟨q3, q4⟩⟩
  have k1 := fun W => refCmp3 a b c d W wa wb wc wd
  rw [hb, if_pos rfl] at k1
  have HB := Lib.hid hb
  have HKK := Lib.hid hk
  generalize hcc : cmpI a b c d = cc at *
  have HCC := Lib.hid hcc
  clear hcc
  have C0 := Lib.hid c0; have C1 := Lib.hid c1; have C2 := Lib.hid c2; have C4 := Lib.hid c4; have K1 := Lib.hid k1; have HWF := Lib.hid hwf
  have WA := Lib.hid wa; have WB := Lib.hid wb; have WCC := Lib.hid wc; have WD := Lib.hid wd; have HL := Lib.hid hl
  clear c0 c1 c2 c4 k1 h hwf wa wb wc wd hl hb
  go_enter Try.func8, Try.ntmps8
  go_upto_region 2 with (first
    | (go_at_call 10; (with_reducible refine (C0.out _ (by repeat (with_reducible first | assumption | exact grA | apply grB | apply grC | apply grD | refine grE ?_ (by omega) _ | refine grF ?_ (by omega) _ _))).mono ?_); rintro e w1 ⟨v1, rfl, rfl, H1⟩)
    | (go_at_call 12; (with_reducible refine (C1.out _ _ H1.out).mono ?_); rintro e w2 ⟨ix, B, rfl, hix, hB2, hg2, HI⟩))
  have k2 : w.grows w2 := World.grows.trans (by repeat (with_reducible first | assumption | exact grA | apply grB | apply grC | apply grD | refine grE ?_ (by omega) _ | refine grF ?_ (by omega) _ _)) hg2
  have kx : w.heap.size + 2 ≤ ix := by simp at hix; omega
  have kB : w.heap.size + 4 ≤ B := by simp at hB2; omega
  have r7 : w2.row w.heap.size = some (.cells #[.int .i64 a, .int .i64 b] 24) := (hg2.row_eq (by simp <;> omega)).trans (by simp [go_sem])
  have r8 : w2.row (w.heap.size + 1) = some (.cells #[.int .i64 c, .int .i64 d] 24) := (hg2.row_eq (by simp <;> omega)).trans (by simp [go_sem])
  have z7 := row_sz' r7; have z8 := row_sz' r8
  have HX := Lib.hid (C2.out ix B)
  obtain ⟨mb, hxrow⟩ := idx_seg HI.out
  have hixs := (row_sz' hxrow).1
  clear H1 hg2 hix hxrow hB2
  go_upto_if 31 with (go_at_call 18; (with_reducible refine (K1.out _).mono ?_); rintro e w1 ⟨rfl, x1, rfl⟩)
  go_cut [10] (fun s10 wx => s10 = .int .i64 cc ∧ wx.row w.heap.size = some (.cells #[.int .i64 c, .int .i64 d] 24) ∧ wx.row (w.heap.size + 1) = some (.cells #[.int .i64 a, .int .i64 b] 24) ∧ w.grows wx ∧ Hid (∀ k, w.heap.size + 2 ≤ k → k < w2.heap.size → wx.row k = w2.row k) ∧ w2.heap.size ≤ wx.heap.size)
  case first =>
    go_wp2_with fail
    go_meet
    refine ⟨rfl, by simp [go_sem, r7, r8, z7, z8], by simp [go_sem, r7, r8, z7, z8], (by repeat (with_reducible first | assumption | exact grA | apply grB | apply grC | apply grD | refine grE ?_ (by omega) _ | refine grF ?_ (by omega) _ _)), Lib.hid fun k hk hk2 => ?_, by simp⟩
    refine (World.grows.row_eq (w := (w2.setRow w.heap.size #[.int .i64 c, .int .i64 d]).setRow (w.heap.size + 1) #[.int .i64 a, .int .i64 b]) (by repeat (with_reducible first | assumption | exact grA | apply grB | apply grC | apply grD | refine grE ?_ (by omega) _ | refine grF ?_ (by omega) _ _)) (by simp <;> omega)).trans ?_
    rw [World.row_setRow, if_neg (by omega), World.row_setRow, if_neg (by omega)]
  case rest =>
  obtain ⟨rfl, hb6, hb7, k3, hrows, hsz⟩ := hcut
  generalize wc = w3 at *
  have HI3 := Lib.hid (Idx.rows HI.out fun k hk hl => hrows.out k (by omega) hl)
  clear hrows
  have z6 := row_sz' hb6; have z7' := row_sz' hb7
  go_upto_region 8 with (go_at_call 19; go_loud ((with_reducible refine (C4.out _ ix B HI3.out).mono ?_); rintro e w4 ⟨v4, p, rfl, hg4, HP⟩; obtain ⟨aP, cP, rfl, _, _⟩ := HP.out.1.len))
  have k4 : w.grows w4 := k3.trans hg4
  have h46 := (hg4.row_eq z6.1).trans hb6
  have h47 := (hg4.row_eq z7'.1).trans hb7
  have z46 := row_sz' h46; have z47 := row_sz' h47
  have hwp : ∀ r ∈ plcs p, I64 r.1 ∧ I64 r.2 := fun r hr => by
    obtain ⟨x, hx, rfl⟩ := (plcs_mem p).1 hr
    have := HWF.out x (ofN_mem.1 ((Srt.mem HP.out.2 x).1 hx)).1
    exact ⟨this.2.2.1, this.2.2.2.1⟩
  have HWP := Lib.hid hwp
  have hpl : (plcs p).length ≤ 200 := by
    have e1 := plcs_len p p.length
    rw [List.take_length] at e1
    have e2 := HP.out.2.len
    have e3 : (ofN L L.length nm.data.toList).length ≤ L.length := by unfold ofN; exact Nat.le_trans (List.length_filter_le _ _) (by simp)
    have e4 := HL.out
    omega
  have HSL := Lib.hid HP.out.1
  have hfin : (∀ r ∈ plcs p, ¬ liesB c d a b r) → idsOf (flipR nm c d a b) L = [] := fun hno => none_turns HP.out.2 (by rw [both_swap]; exact HB.out) (Int.le_of_lt (cmpI_swap (by have := HKK.out; have := HCC.out; omega) (by have := HKK.out; have := HCC.out; omega))) hno
  have HFIN := Lib.hid hfin
  clear hwp hfin HP hb6 hb7 z6 z7'
  generalize plcs p = PR at *
  go_loopg [38] PR.length (fun gn v38 wj => ∃ i : Nat, Hid (gn + i = PR.length ∧ i ≤ PR.length) ∧ v38 = .int .i64 i ∧ w4.grows wj ∧ Hid (∀ j r, j < i → PR[j]? = some r → ¬ liesB c d a b r))
  case atStart => exact ⟨0, Lib.hid ⟨by simp, Nat.zero_le _⟩, by go_num, (by repeat (with_reducible first | assumption | exact grA | apply grB | apply grC | apply grD | refine grE ?_ (by omega) _ | refine grF ?_ (by omega) _ _)), Lib.hid fun j r hj => by omega⟩
  case round =>
    obtain ⟨i, HK, rfl, hgj, HNO⟩ := hrel
    obtain ⟨j1, j2⟩ := HK.out
    have h56 := (hgj.row_eq z46.1).trans h46
    have h57 := (hgj.row_eq z47.1).trans h47
    have z56 := row_sz' h56; have z57 := row_sz' h57
    by_cases hlt : i < PR.length
    · have i1 : (i : Int) < (PR.length : Int) := by omega
      have hgt := List.getElem?_eq_getElem hlt
      have hwr := HWP.out _ (List.getElem_mem hlt)
      obtain ⟨_, _, e4, _, _, b5⟩ := HSL.out
      injection e4 with e4 e5 e6
      clear e5
      subst e4; subst e6
      rcases b5 with h0 | ⟨g, off, rfl, _, h4⟩
      · rw [h0] at hlt; simp at hlt
      obtain ⟨cs, _, el, rfl⟩ := h4 i _ hgt
      have el2 := el.grows hgj
      generalize PR[i] = r at *
      have e1 : segOk (off + i * 2) 2 (wr.row g) = true := el2.1
      have e2 : segV (off + i * 2) 2 (wr.row g) = .agg #[.int .i64 r.1, .int .i64 r.2] := el2.2
      have zg := lt_sz el2.lt
      have kk1 := fun W => refCmp3 c d r.1 r.2 W WCC.out WD.out hwr.1 hwr.2
      have kk2 := fun W => refCmp3 r.1 r.2 a b W hwr.1 hwr.2 WA.out WB.out
      have hlies : ∀ U V : Int, U = (if both c d r.1 r.2 = true then cmpI c d r.1 r.2 else 0) → V = (if both r.1 r.2 a b = true then cmpI r.1 r.2 a b else 0) → ¬ (U ≤ 0 ∧ V ≤ 0) → Hid (∀ j r', j < i + 1 → PR[j]? = some r' → ¬ liesB c d a b r') := fun U V hU hV hn => Lib.hid fun j r' hj hr => by
        by_cases e : j = i
        · subst e; rw [hgt] at hr; cases hr; unfold liesB; rw [← hU, ← hV]; exact hn
        · exact HNO.out j r' (by omega) hr
      have HLIES := Lib.hid (hlies _ _ rfl rfl)
      clear hlies el el2 h4 hgt hwr
      obtain ⟨r1, r2⟩ := r
      simp only at kk1 kk2 e2
      generalize both c d r1 r2 = P1 at *
      generalize both r1 r2 a b = P2 at *
      generalize (if P1 = true then cmpI c d r1 r2 else 0) = U at *
      generalize (if P2 = true then cmpI r1 r2 a b else 0) = V at *
      have KK1 := Lib.hid kk1; have KK2 := Lib.hid kk2
      clear kk1 kk2
      by_cases h1 : U ≤ 0
      · by_cases h2 : V ≤ 0
        · have kwr : w.grows wr := k4.trans hgj
          go_wp2_with (first | (go_at_call 18; (with_reducible refine (KK1.out _).mono ?_); rintro e w1 ⟨rfl, x1, rfl⟩) | (go_at_call 18; (with_reducible refine (KK2.out _).mono ?_); rintro e w1 ⟨rfl, x1, rfl⟩) | (go_at_call 16; (with_reducible refine (awake24_any _).mono ?_); rintro e w9 ⟨rfl, x9, rfl⟩))
          go_ret
          exact ⟨rfl, (by repeat (with_reducible first | assumption | exact grA | apply grB | apply grC | apply grD | refine grE ?_ (by omega) _ | refine grF ?_ (by omega) _ _))⟩
        · have HN := Lib.hid (HLIES.out fun h => h2 h.2)
          go_wp2_with (first | (go_at_call 18; (with_reducible refine (KK1.out _).mono ?_); rintro e w1 ⟨rfl, x1, rfl⟩) | (go_at_call 18; (with_reducible refine (KK2.out _).mono ?_); rintro e w1 ⟨rfl, x1, rfl⟩))
          go_roundg (PR.length - (i + 1))
          case rel => exact ⟨i + 1, Lib.hid ⟨by omega, by omega⟩, by go_num, (by repeat (with_reducible first | assumption | exact grA | apply grB | apply grC | apply grD | refine grE ?_ (by omega) _ | refine grF ?_ (by omega) _ _)), HN.out⟩
          case measure => omega
      · have HN := Lib.hid (HLIES.out fun h => h1 h.1)
        go_wp2_with (first | (go_at_call 18; (with_reducible refine (KK1.out _).mono ?_); rintro e w1 ⟨rfl, x1, rfl⟩) | (go_at_call 18; (with_reducible refine (KK2.out _).mono ?_); rintro e w1 ⟨rfl, x1, rfl⟩))
        go_roundg (PR.length - (i + 1))
        case rel => exact ⟨i + 1, Lib.hid ⟨by omega, by omega⟩, by go_num, (by repeat (with_reducible first | assumption | exact grA | apply grB | apply grC | apply grD | refine grE ?_ (by omega) _ | refine grF ?_ (by omega) _ _)), HN.out⟩
        case measure => omega
    · have i1 : ¬ (i : Int) < (PR.length : Int) := by omega
      obtain rfl : i = PR.length := by omega
      have hnone := HFIN.out fun r hr => by
        obtain ⟨j, hj, e⟩ := List.mem_iff_getElem.1 hr
        exact HNO.out j r hj (by rw [List.getElem?_eq_getElem hj, e])
      have w3r : w3.grows wr := hg4.trans hgj
      have kwr : w.grows wr := k4.trans hgj
      have fl := HX.out.flips c d a b wr 0 WCC.out WD.out WA.out WB.out (Idx.grows HI3.out w3r) (by omega) (by omega)
      have cr := fun W n => HX.out.cross a b c d W n WA.out WB.out WCC.out WD.out
      rw [flipR_swap, hnone] at cr
      rw [hnone] at fl
      have FL := Lib.hid fl; have CR := Lib.hid cr
      clear fl cr hnone
      go_wp2_with (first
        | (go_at_call 14; go_loud ((with_reducible refine FL.out.mono ?_); rintro e w5 ⟨v5, r5, n5, rfl, o5, H5⟩; obtain rfl : r5 = [] := H5.out.2.2.2.2.uniq rise_nil; obtain ⟨a5, c5, rfl, _, _⟩ := H5.out.2.2.2.1.at.len; have h66 := (o5.row _ (by omega) z56.1).trans h56; have h67 := (o5.row _ (by omega) z57.1).trans h57; have z66 := row_sz' h66; have z67 := row_sz' h67; have k5 : w.grows w5 := o5.gr w (by omega) kwr))
        | (go_at_call 15; go_loud ((with_reducible refine (CR.out _ n5 (Idx.grows H5.out.1 (by repeat (with_reducible first | assumption | exact grA | apply grB | apply grC | apply grD | refine grE ?_ (by omega) _ | refine grF ?_ (by omega) _ _))) H5.out.2.1 (by have := H5.out.2.2.1; have := HL.out; omega)).mono ?_); rintro e w6 ⟨n6, rfl, o6, H6⟩; have k6 : w.grows w6 := o6.gr w (by omega) k5))
        | (go_at_call 16; (with_reducible refine (awake24_any _).mono ?_); rintro e w9 ⟨rfl, x9, rfl⟩))
      go_ret
      exact ⟨rfl, (by repeat (with_reducible first | assumption | exact grA | apply grB | apply grC | apply grD | refine grE ?_ (by omega) _ | refine grF ?_ (by omega) _ _))⟩

theorem pointBetween_any (v : Value) (l : List Ln) (nm : ByteArray) (a b c d : Int) (w : World) (h : SlAt w (fun _ => True) 5 LnR v l) (hs : nm.size ≤ maxLen) (wa : I64 a) (wb : I64 b) (wc : I64 c) (wd : I64 d) :
    Calls Try.prog 8 #[v, .string nm, .agg #[.int .i64 a, .int .i64 b], .agg #[.int .i64 c, .int .i64 d]] w (Gives w (.bool true)) := by
  cases hb : both a b c d with
  | false => exact betwNo_any v l nm a b c d w h hs wa wb wc wd hb
  | true =>
    by_cases hk : cmpI a b c d ≤ 0
    · exact betwLe_any v l nm a b c d w h hs wa wb wc wd hb hk
    · exact betwGt_any v l nm a b c d w h hs wa wb wc wd hb (by omega)

theorem pointBetween_own : ownKnob Try.prog.godebug = none := by kernel_rfl
theorem pointBetween_laidOut : laidOutB Try.prog = true := by kernel_rfl
set_option maxRecDepth 100000 in
set_option maxHeartbeats 2000000 in
theorem pointBetween_lifted (os : Os) (started : os.Started) (H : Type) (enc : TypeId × Value → H) :
    ReturnsInHanded {} Try.checked os 8 .any (Rows.pointBetweenSpec.pre6 enc Try.prog Try.f8 Rows.pointBetweenRow.domain false) (Rows.pointBetweenSpec.post enc Try.prog Try.f8 false true false false) := by
  refine returnsInHanded_of_change (C := Try.checked) pointBetween_own started (by kernel_rfl) Try.func8
    (ChangeSpec.witness6 (enc := enc) (C := Try.checked) false ⟨#[], #[.slice none 0 0, .string ByteArray.empty, .agg #[.int .i64 0, .int .i64 0], .agg #[.int .i64 0, .int .i64 0]], []⟩ 8 (by kernel_rfl) (by kernel_rfl) (by kernel_rfl) (by kernel_rfl)) ?_
  intro W base args ds gs before hval0 hW hcnd _
  have hval : ∀ (j : Nat) t v, Try.f8.params[j]? = some t → args[j]? = some v → Value.okWide Try.prog W .any base t v := hval0
  have hW' := hW
  obtain ⟨p, q, hA0, hV, rfl, hfz, hnd⟩ := hW
  have hA : DataW.TrodAll enc Try.prog W 0 (fun _ => true) true Try.f8.params.toList args.toList ds p := hA0
  rw [Try.params8] at hA hval
  obtain ⟨v0, vs0, d0, ds0, p0, q0, hargs, rfl, rfl, h0, r0⟩ := trodAll_cons hA
  obtain ⟨v1, vs1, d1, ds1, p1, q1, rfl, rfl, rfl, h1, r1⟩ := trodAll_cons r0
  obtain ⟨v2, vs2, d2, ds2, p2, q2, rfl, rfl, rfl, h2, r2⟩ := trodAll_cons r1
  obtain ⟨v3, vs3, d3, ds3, p3, q3, rfl, rfl, rfl, h3, r3⟩ := trodAll_cons r2
  obtain ⟨rfl, rfl, rfl⟩ := trodAll_nil r3
  obtain rfl : args = #[v0, v1, v2, v3] := by cases args; simp_all
  obtain ⟨rfl, rfl⟩ := trodVars_none hV
  have k0 := h0
  have lt0 : ∀ x ∈ p0, x.block < W.heap.size := by obtain ⟨m, hm⟩ := k0; exact DataW.trod_lt m _ _ _ hm
  have k1 := h1
  have lt1 : ∀ x ∈ p1, x.block < W.heap.size := by obtain ⟨m, hm⟩ := k1; exact DataW.trod_lt m _ _ _ hm
  have k2 := h2
  have lt2 : ∀ x ∈ p2, x.block < W.heap.size := by obtain ⟨m, hm⟩ := k2; exact DataW.trod_lt m _ _ _ hm
  have k3 := h3
  have lt3 : ∀ x ∈ p3, x.block < W.heap.size := by obtain ⟨m, hm⟩ := k3; exact DataW.trod_lt m _ _ _ hm
  obtain ⟨l, h_l⟩ := lines_arg (hval 0 22 v0 rfl rfl) h0
  obtain ⟨nm, rfl, _, _, wnm⟩ := open_string Try.underlying9 (hval 1 9 v1 rfl rfl) h1
  obtain ⟨a, b, rfl, w2_0, w2_1⟩ := rat_arg (hval 2 24 v2 rfl rfl) h2
  obtain ⟨c, d, rfl, w3_0, w3_1⟩ := rat_arg (hval 3 24 v3 rfl rfl) h3
  clear hA0 hval0
  refine (pointBetween_any v0 l nm a b c d W h_l wnm w2_0 w2_1 w3_0 w3_1).mono fun e W' ⟨he, grw⟩ => ?_
  subst he
  have bel := grw.below
  exact ⟨_, rfl, _, _, _, [], _, [], hW', trodAll_mk1 (shut_bool Try.underlying4 _), (trodAll_cons_mk (Below.trod pointBetween_laidOut (by kernel_rfl) (of_decide_eq_true (by kernel_rfl)) k0 bel lt0) (trodAll_cons_mk (Below.trod pointBetween_laidOut (by kernel_rfl) (of_decide_eq_true (by kernel_rfl)) k1 bel lt1) (trodAll_cons_mk (Below.trod pointBetween_laidOut (by kernel_rfl) (of_decide_eq_true (by kernel_rfl)) k2 bel lt2) (trodAll_cons_mk (Below.trod pointBetween_laidOut (by kernel_rfl) (of_decide_eq_true (by kernel_rfl)) k3 bel lt3) trodAll_mk0)))), rfl, bel.frame _, fun h => by cases h⟩

/-- THE STATEMENT -/
theorem pointBetween_holds : Rows.PointBetweenSaid :=
  OpenClaim.holds_of_wide 8 Try.f8 rfl rfl rfl rfl rfl rfl rfl ⟨rfl, rfl, rfl, rfl, rfl⟩ rfl rfl rfl rfl rfl (by kernel_rfl) Try.func8 (by kernel_rfl)
    (of_decide_eq_true (by kernel_rfl)) (by unfold Func.isWrapper; first | (rw [if_pos (by decide +kernel)]; kernel_rfl) | (rw [if_neg (by decide +kernel)]; exact ⟨rfl, rfl⟩))
    (fun os started H enc _ => pointBetween_lifted os started H enc)
#print axioms pointBetween_holds
end Go.Proofs.Ytjfccilmlmimaaa


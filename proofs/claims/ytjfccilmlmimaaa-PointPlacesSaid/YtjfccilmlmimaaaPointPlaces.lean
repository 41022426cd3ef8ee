/- PointPlaces is true for every input: the places of any lines, in order. No condition. (printed by mkplaces.py) -/
import Derived.Test.YtjfccilmlmimaaaPlcRP
import Derived.Test.YtjfccilmlmimaaaPlc
import Derived.Test.YtjfccilmlmimaaaAwk24
import Derived.Test.YtjfccilmlmimaaaArgsL
import Derived.Test.YtjfccilmlmimaaaRows
set_option linter.unusedSimpArgs false
set_option linter.unusedVariables false
namespace Go.Proofs.Ytjfccilmlmimaaa
open Go.RowKit Go.Maps Go.ChangeShapes Go.WideShapes Go.ChangeAt
open Go.ChangeMaps (open_string shut_string)

theorem rtC_one (x : Int × Int) (u : Value) (h : u ∈ rtC x) : u.oneCell' = true := by
  simp only [rtC, List.mem_cons, List.not_mem_nil, or_false] at h
  rcases h with rfl | rfl <;> simp [Value.oneCell']
theorem refCmp4 (a b c d : Int) (w : World) (wa : I64 a) (wb : I64 b) (wc : I64 c) (wd : I64 d) (hb : both a b c d = true) : Calls Try.prog 18 #[.agg #[.int .i64 a, .int .i64 b], .agg #[.int .i64 c, .int .i64 d]] w (Gives w (.tuple #[.int .i64 (cmpI a b c d), .bool true])) := by
  have := refCmp_any a b c d w wa wb wc wd
  unfold cmpV at this
  unfold both at hb
  simpa [hb] using this

set_option maxRecDepth 100000 in
set_option maxHeartbeats 8000000 in
theorem pointPlaces_any (v : Value) (l : List Ln) (nm : ByteArray) (w : World) (h : SlAt w (fun _ => True) 5 LnR v l) (hs : nm.size ≤ maxLen) :
    Calls Try.prog 4 #[v, .string nm] w (Gives w (.bool true)) := by
  have hl : (l.take 200).length ≤ 200 := by simp; omega
  have hwf : AllWf (l.take 200) := fun x hx => lines_wf h x (List.mem_of_mem_take hx)
  have c0 : ∀ W, w.grows W → Calls Try.prog 10 #[v] W fun e w' => ∃ a c, e = .returned (.slice a (l.take 200).length c) ∧ W = w' ∧ Hid (SlAt W (fun _ => True) 5 LnR (.slice a (l.take 200).length c) (l.take 200)) := fun W hg => (cut_any v l W (h.grows hg fun _ _ _ h => h)).mono fun e w' ⟨v', q1, q2, q3⟩ => by
    obtain ⟨a, c, e', _, _⟩ := q3.len
    exact ⟨a, c, by rw [q1, e'], q2.symm, Lib.hid (by rw [← e']; exact q3)⟩
  generalize l.take 200 = L at *
  have c1 : ∀ W v', SlAt W (fun _ => True) 5 LnR v' L → Calls Try.prog 12 #[v'] W fun e w' => ∃ ix B, e = .returned (.pointer (some ⟨ix, 0, none⟩)) ∧ W.grows w' ∧ Hid (Idx w' ix 0 B L) := fun W v' h => (ixNew_any v' _ W h (by omega)).mono fun e w' ⟨ix, B, q1, q2, q3, q4⟩ => ⟨ix, B, q1, q3, Lib.hid q4⟩
  have c2 : ∀ W ix B, Idx W ix 0 B L → Calls Try.prog 19 #[.pointer (some ⟨ix, 0, none⟩), .string nm] W fun e w' => ∃ v2, e = .returned v2 ∧ W.grows w' ∧ Hid (SlAt w' (fun _ => True) 2 RtR v2 (wantR nm L)) := fun W ix B hI => (ptPlaces_any ix B 0 L nm W hI hwf hs (by omega)).mono fun e w' ⟨v2, p, q1, q2, q3, q4⟩ => ⟨v2, q1, q2, Lib.hid (by rw [← plcs_want q4]; exact q3)⟩
  have C0 := Lib.hid c0; have C1 := Lib.hid c1; have C2 := Lib.hid c2; have HWF := Lib.hid hwf; have HL := Lib.hid hl
  clear c0 c1 c2 h hwf hl
  go_enter Try.func4, Try.ntmps4
  go_upto_region 2 with (go_at_call 10; (with_reducible refine (C0.out _ (by repeat (with_reducible first | assumption | exact grA | apply grB | apply grC | apply grD | refine grE ?_ (by omega) _ | refine grF ?_ (by omega) _ _))).mono ?_); rintro e w1 ⟨a1, c1, rfl, rfl, H1⟩)
  go_wp2_with fail
  go_loopg [5, 17] L.length (fun gn v5 v17 wj => ∃ i : Nat, Hid (gn + i = L.length ∧ i ≤ L.length) ∧ v17 = .int .i64 i ∧ w.grows wj ∧ Hid (SlAt wj (fun _ => True) 2 RtR v5 (wantR nm (L.take i))))
  case atStart => exact ⟨0, Lib.hid ⟨by simp, Nat.zero_le _⟩, by go_num, (by repeat (with_reducible first | assumption | exact grA | apply grB | apply grC | apply grD | refine grE ?_ (by omega) _ | refine grF ?_ (by omega) _ _)), Lib.hid (SlAt_nil _ _ _ _)⟩
  case round =>
    obtain ⟨i, HK, rfl, hg, HV⟩ := hrel
    obtain ⟨j1, j2⟩ := HK.out
    have hln := wantR_len nm L i
    have hL := HL.out
    by_cases hlt : i < L.length
    · have i1 : (i : Int) < (L.length : Int) := by omega
      have hgt := List.getElem?_eq_getElem hlt
      have hwx := HWF.out _ (List.getElem_mem hlt)
      obtain ⟨_, _, e4, _, _, b5⟩ := H1.out
      injection e4 with e4 e5 e6
      clear e5
      subst e4; subst e6
      rcases b5 with h0 | ⟨g, off, rfl, _, h4⟩
      · rw [h0] at hlt; simp at hlt
      obtain ⟨cs, _, el, ec, _⟩ := h4 i _ hgt
      have hsc := wantR_succ (nm := nm) hgt
      generalize L[i] = x at *
      subst ec
      replace el := el.grows hg
      have e1 : segOk (off + i * 5) 5 (wr.row g) = true := el.1
      have e2 : segV (off + i * 5) 5 (wr.row g) = x.v := el.2
      have zg := lt_sz el.lt
      have hall := wantR_all nm (L.take i)
      have hsR := hall.2.1
      have hwR : ∀ y ∈ wantR nm (L.take i), I64 y.1 ∧ I64 y.2 := fun y hy => by
        obtain ⟨x', hx', _, _, e⟩ := (hall.2.2 y).1 hy
        have := HWF.out x' (List.mem_of_mem_take hx')
        rw [← e]; exact ⟨this.2.2.1, this.2.2.2.1⟩
      generalize wantR nm (L.take i) = R at *
      obtain ⟨n3, c3, rfl, hc3, hc4⟩ := HV.out.len
      have hI := fun W => refIs_any x.p x.q W hwx.2.2.1.1 hwx.2.2.1.2 hwx.2.2.2.1.1 hwx.2.2.2.1.2
      obtain ⟨nx, o, q, r, id⟩ := x
      simp only [Ln.at2] at hsc hI
      have HWX := Lib.hid (⟨hwx.2.2.1, hwx.2.2.2.1⟩ : I64 q ∧ I64 r)
      have HSR := Lib.hid hsR; have HWR := Lib.hid hwR
      clear el h4 hgt hwx hall hsR hwR
      by_cases hn : nx = nm
      · subst hn
        cases hsu : sureB q r with
        | false =>
          rw [if_neg (by rw [hsu]; simp)] at hsc
          rw [hsu] at hI
          have HSC := Lib.hid hsc; have HI := Lib.hid hI
          clear hsc hI hsu
          go_wp2_with (first | (go_at_call 17; (with_reducible refine (HI.out _).mono ?_); rintro e w1 ⟨rfl, x1, rfl⟩))
          go_roundg (L.length - (i + 1))
          case rel => exact ⟨i + 1, Lib.hid ⟨by omega, by omega⟩, by go_num, (by repeat (with_reducible first | assumption | exact grA | apply grB | apply grC | apply grD | refine grE ?_ (by omega) _ | refine grF ?_ (by omega) _ _)), Lib.hid (by rw [HSC.out]; exact HV.out.grows (by repeat (with_reducible first | assumption | exact grA | apply grB | apply grC | apply grD | refine grE ?_ (by omega) _ | refine grF ?_ (by omega) _ _)) fun _ _ _ h => h)⟩
          case measure => omega
        | true =>
          rw [if_pos ⟨rfl, hsu⟩] at hsc
          rw [hsu] at hI
          have HSC := Lib.hid hsc; have HI := Lib.hid hI; have HSU := Lib.hid hsu
          clear hsc hI hsu
          go_wp2_with (first | (go_at_call 17; (with_reducible refine (HI.out _).mono ?_); rintro e w1 ⟨rfl, x1, rfl⟩))
          generalize wr = wo at *
          go_loopg [8] R.length (fun gn2 v8 wk => ∃ k : Nat, Hid (gn2 + k = R.length ∧ k ≤ R.length) ∧ v8 = .int .i64 k ∧ wo.grows wk ∧ wk.row wo.heap.size = some (.cells #[.string nx, .int .i64 o, .int .i64 q, .int .i64 r, .int .i64 id] 37) ∧ Hid (∀ (j : Nat) v, j < k → R[j]? = some v → cmpI v.1 v.2 q r < 0))
          case atStart => exact ⟨0, Lib.hid ⟨by simp, Nat.zero_le _⟩, by go_num, (by repeat (with_reducible first | assumption | exact grA | apply grB | apply grC | apply grD | refine grE ?_ (by omega) _ | refine grF ?_ (by omega) _ _)), by simp [go_sem], Lib.hid fun j v hj => by omega⟩
          case round =>
            obtain ⟨k, HK2, rfl, hgk, hxr, HLO⟩ := hrel
            obtain ⟨j3, j4⟩ := HK2.out
            have zx := row_sz' hxr
            have hgw : w.grows wr := hg.trans hgk
            by_cases hkl : k < R.length
            · have n5 : (k : Int) < (R.length : Int) := by omega
              have hky := List.getElem?_eq_getElem hkl
              have hsy := HSR.out _ (List.getElem_mem hkl)
              have hwy := HWR.out _ (List.getElem_mem hkl)
              have HVk := Lib.hid (HV.out.grows hgk fun _ _ _ h => h)
              obtain ⟨n4, c4, e7, _, _, b7⟩ := HVk.out
              injection e7 with e7 e8 e9
              clear e8
              subst e7; subst e9
              rcases b7 with h0 | ⟨g3, off3, rfl, _, h7⟩
              · rw [h0] at hkl; simp at hkl
              obtain ⟨cs3, _, el3, rfl⟩ := h7 k _ hky
              have e3 : segOk (off3 + k * 2) 2 (wr.row g3) = true := el3.1
              have e4 : segV (off3 + k * 2) 2 (wr.row g3) = .agg #[.int .i64 R[k].1, .int .i64 R[k].2] := el3.2
              have zg3 := lt_sz el3.lt
              have HKY := Lib.hid hky
              have cc := fun W => refCmp4 R[k].1 R[k].2 q r W hwy.1 hwy.2 HWX.out.1 HWX.out.2 (both_yes.2 ⟨hsy, HSU.out⟩)
              clear el3 h7 hky hsy hwy
              generalize R[k] = y at *
              obtain ⟨y1, y2⟩ := y
              simp only at e4 cc
              by_cases hlt2 : cmpI y1 y2 q r < 0
              · have HL2 : Hid (∀ (j : Nat) v, j < k + 1 → R[j]? = some v → cmpI v.1 v.2 q r < 0) := Lib.hid fun j v hj hv => by
                  by_cases e : j = k
                  · rw [e, HKY.out] at hv; cases hv; exact hlt2
                  · exact HLO.out j v (by omega) hv
                generalize cmpI y1 y2 q r = C at *
                have n6 : ¬ 0 ≤ C := by omega
                have CC := Lib.hid cc
                clear cc hlt2
                go_upto_region 9 with fail
                refine wp_region_plus_lit (by kernel_rfl) (by kernel_rfl) ?_
                repeat (go_big_quiet_step ((go_at_call 18; (with_reducible exact Calls.plus_of (CC.out _)))))
                (refine wpQuiet_nil ?_; intro _ hw'; obtain ⟨xq, hw''⟩ := hw'; subst hw'')
                go_wp2_with fail
                go_roundg (R.length - (k + 1))
                case rel => exact ⟨k + 1, Lib.hid ⟨by omega, by omega⟩, by go_num, (by repeat (with_reducible first | assumption | exact grA | apply grB | apply grC | apply grD | refine grE ?_ (by omega) _ | refine grF ?_ (by omega) _ _)), by simp [go_sem, hxr, zx], HL2⟩
                case measure => omega
              · have HL3 : Hid (∀ v, R[k]? = some v → ¬ cmpI v.1 v.2 q r < 0) := Lib.hid fun v hv => by rw [HKY.out] at hv; cases hv; exact hlt2
                have hpl := insR_at R (q, r) k (by omega) HLO.out HL3.out
                generalize cmpI y1 y2 q r = C at *
                have n6 : 0 ≤ C := by omega
                have CC := Lib.hid cc
                clear cc hlt2
                by_cases hyq : (y1, y2) = (q, r)
                · have hfin : insR R (q, r) = R := by rw [hpl, if_pos (by rw [HKY.out, hyq])]
                  have HFIN := Lib.hid hfin
                  have hyb : (y1 == q && y2 == r) = true := by cases hyq; simp
                  clear hpl hfin hyq
                  go_upto_region 9 with fail
                  refine wp_region_plus_lit (by kernel_rfl) (by kernel_rfl) ?_
                  repeat (go_big_quiet_step ((go_at_call 18; (with_reducible exact Calls.plus_of (CC.out _)))))
                  (refine wpQuiet_nil ?_; intro _ hw'; obtain ⟨xq, hw''⟩ := hw'; subst hw'')
                  go_upto_region 12 with fail
                  refine wp_region_plus_lit (by kernel_rfl) (by kernel_rfl) ?_
                  repeat (go_big_quiet_step (fail))
                  (refine wpQuiet_nil ?_; intro _ hw'; obtain ⟨xq, hw''⟩ := hw'; subst hw'')
                  go_wp2_with fail
                  go_roundg (L.length - (i + 1))
                  case rel => exact ⟨i + 1, Lib.hid ⟨by omega, by omega⟩, by go_num, (by repeat (with_reducible first | assumption | exact grA | apply grB | apply grC | apply grD | refine grE ?_ (by omega) _ | refine grF ?_ (by omega) _ _)), Lib.hid (by rw [HSC.out, HFIN.out]; exact HV.out.grows (World.grows.trans hgk (by repeat (with_reducible first | assumption | exact grA | apply grB | apply grC | apply grD | refine grE ?_ (by omega) _ | refine grF ?_ (by omega) _ _))) fun _ _ _ h => h)⟩
                  case measure => omega
                · have hfin : insR R (q, r) = R.take k ++ ([(q, r)] ++ R.drop k) := by rw [hpl, if_neg (by rw [HKY.out]; intro e; cases e; exact hyq rfl)]
                  have HFIN := Lib.hid hfin
                  have hyb : (y1 == q && y2 == r) = false := by
                    by_cases e1 : y1 = q
                    · have e2 : ¬ y2 = r := fun e2 => hyq (by rw [e1, e2])
                      simp [e2]
                    · simp [e1]
                  clear hpl hfin hyq
                  go_upto_region 9 with fail
                  refine wp_region_plus_lit (by kernel_rfl) (by kernel_rfl) ?_
                  repeat (go_big_quiet_step ((go_at_call 18; (with_reducible exact Calls.plus_of (CC.out _)))))
                  (refine wpQuiet_nil ?_; intro _ hw'; obtain ⟨xq, hw''⟩ := hw'; subst hw'')
                  go_upto_region 12 with fail
                  refine wp_region_plus_lit (by kernel_rfl) (by kernel_rfl) ?_
                  repeat (go_big_quiet_step (fail))
                  (refine wpQuiet_nil ?_; intro _ hw'; obtain ⟨xq, hw''⟩ := hw'; subst hw'')
                  go_upto_region 13 with fail
                  refine abs_rows (w := wr) (G := fun W => Code.wp _ _ _ _ W) (by repeat (with_reducible first | assumption | exact grA | apply grB | apply grC | apply grD | refine grE ?_ (by omega) _ | refine grF ?_ (by omega) _ _)) [(wo.heap.size, .cells #[.string nx, .int .i64 o, .int .i64 q, .int .i64 r, .int .i64 id] 37), (wo.heap.size, .cells #[.string nx, .int .i64 o, .int .i64 q, .int .i64 r, .int .i64 id] 37)] (by simp [go_sem, *]) ?_
                  intro W0 gW0 hl
                  simp only [List.forall_mem_cons, List.not_mem_nil, false_implies, implies_true, and_true] at hl
                  obtain ⟨hx0, hx00⟩ := hl
                  have zhx0 := row_sz' hx0
                  have zhx00 := row_sz' hx00
                  have hw0 : w.grows W0 := hgw.trans gW0
                  have HV0 := Lib.hid (HVk.out.grows gW0 fun _ _ _ h => h)
                  refine wp_region_plus_seq (by kernel_rfl) (by kernel_rfl) (fun x0 => ?_)
                  repeat (any_goals (first | (refine wpSeqL_free rfl ?_; first | (go_big_quiet_skip; refine wpQuiet_nil ?_) | (go_big_quiet_step (fail); refine wpQuiet_nil ?_) | (refine wpQuiet_step (fun K hK => ?_); go_simp; split <;> (refine hK _ ?_; clear hK K; refine wpQuiet_nil ?_))) | (refine wpSeqL_link rfl (fun K hK => ?_); go_simp; first | first | (refine hK _ _ (by show World.grows _ _; repeat (first | assumption | exact grA | apply grB | apply grC | apply grD)) ?_; clear hK K) | ((fail); refine ⟨_, rfl, hK _ _ (by show World.grows _ _; repeat (first | assumption | exact grA | apply grB | apply grC | apply grD)) ?_⟩; clear hK K) | (split <;> (first | (refine hK _ _ (by show World.grows _ _; repeat (first | assumption | exact grA | apply grB | apply grC | apply grD)) ?_; clear hK K) | ((fail); refine ⟨_, rfl, hK _ _ (by show World.grows _ _; repeat (first | assumption | exact grA | apply grB | apply grC | apply grD)) ?_⟩; clear hK K))))))
                  refine wpSeqL_appFullN (n := 2) (by' := 16) (z := .agg #[.int .i64 0, .int .i64 0]) rfl rfl (.tmp 68) (.tmp 71) 35 rfl 24 RtR rtC Try.underlying35 (by kernel_rfl) rfl (by omega) (by omega) (fun _ _ h => h) rtC_one (l := [(q, r)]) (r := R.drop k) rfl (slat_one (e := 24) (fr := (0, 0)) (R := RtR) (x := (q, r)) (cs := [.int .i64 q, .int .i64 r]) rfl rfl (by simp [go_sem]) (by simp)) rfl ((HV0.out.drop (k := k) (by omega)).grows (by repeat (with_reducible first | assumption | exact grA | apply grB | apply grC | apply grD | refine grE ?_ (by omega) _ | refine grF ?_ (by omega) _ _)) fun _ _ _ h => h) (by simp; omega) ?_
                  intro A' n' c' w' hn' hg' hI'
                  refine ⟨World.grows.trans (a := W0) (by repeat (with_reducible first | assumption | exact grA | apply grB | apply grC | apply grD | refine grE ?_ (by omega) _ | refine grF ?_ (by omega) _ _)) hg', ?_⟩
                  have hgr' : W0.grows w' := World.grows.trans (by repeat (with_reducible first | assumption | exact grA | apply grB | apply grC | apply grD | refine grE ?_ (by omega) _ | refine grF ?_ (by omega) _ _)) hg'
                  go_simp
                  refine wpSeqL_appFullN (n := 2) (by' := 16) (z := .agg #[.int .i64 0, .int .i64 0]) rfl rfl (.tmp 65) (.tmp 72) 35 rfl 24 RtR rtC Try.underlying35 (by kernel_rfl) rfl (by omega) (by omega) (fun _ _ h => h) rtC_one (l := R.take k) (r := [(q, r)] ++ R.drop k) rfl ((slN_pre HV0.out (by omega)).grows hgr' fun _ _ _ h => h) rfl hI'.out (by simp; omega) ?_
                  intro A2 n2 c2 w2 hn2 hg2 hI2
                  refine ⟨World.grows.trans (a := W0) hgr' hg2, ?_⟩
                  have hgw2 : w.grows w2 := (hw0.trans hgr').trans hg2
                  go_simp
                  repeat (any_goals (first | (refine wpSeqL_free rfl ?_; first | (go_big_quiet_skip; refine wpQuiet_nil ?_) | (go_big_quiet_step (fail); refine wpQuiet_nil ?_) | (refine wpQuiet_step (fun K hK => ?_); go_simp; split <;> (refine hK _ ?_; clear hK K; refine wpQuiet_nil ?_))) | (refine wpSeqL_link rfl (fun K hK => ?_); go_simp; first | first | (refine hK _ _ (by show World.grows _ _; repeat (first | assumption | exact grA | apply grB | apply grC | apply grD)) ?_; clear hK K) | ((fail); refine ⟨_, rfl, hK _ _ (by show World.grows _ _; repeat (first | assumption | exact grA | apply grB | apply grC | apply grD)) ?_⟩; clear hK K) | (split <;> (first | (refine hK _ _ (by show World.grows _ _; repeat (first | assumption | exact grA | apply grB | apply grC | apply grD)) ?_; clear hK K) | ((fail); refine ⟨_, rfl, hK _ _ (by show World.grows _ _; repeat (first | assumption | exact grA | apply grB | apply grC | apply grD)) ?_⟩; clear hK K))))))
                  refine wpSeqL_end ?_
                  go_wp2_with fail
                  go_roundg (L.length - (i + 1))
                  case rel => exact ⟨i + 1, Lib.hid ⟨by omega, by omega⟩, by go_num, hgw2, Lib.hid (by rw [HSC.out, HFIN.out]; exact hI2.out)⟩
                  case measure => omega
            · obtain rfl : k = R.length := by omega
              have n5 : ¬ (R.length : Int) < (R.length : Int) := by omega
              have hpl := insR_at R (q, r) R.length (Nat.le_refl _) HLO.out (fun v hv => by rw [List.getElem?_eq_none (Nat.le_refl _)] at hv; cases hv)
              have hfin : insR R (q, r) = R ++ [(q, r)] := by rw [hpl, if_neg (by rw [List.getElem?_eq_none (Nat.le_refl _)]; simp)]; simp
              have HFIN := Lib.hid hfin
              clear hpl hfin
              go_upto_region 12 with fail
              refine wp_region_plus_lit (by kernel_rfl) (by kernel_rfl) ?_
              repeat (go_big_quiet_step (fail))
              (refine wpQuiet_nil ?_; intro _ hw'; obtain ⟨xq, hw''⟩ := hw'; subst hw'')
              go_upto_region 13 with fail
              rcases n3 with _ | ⟨g3, off3, sp3⟩
              · skip
                refine abs_rows (w := wr) (G := fun W => Code.wp _ _ _ _ W) (by repeat (with_reducible first | assumption | exact grA | apply grB | apply grC | apply grD | refine grE ?_ (by omega) _ | refine grF ?_ (by omega) _ _)) [(wo.heap.size, .cells #[.string nx, .int .i64 o, .int .i64 q, .int .i64 r, .int .i64 id] 37), (wo.heap.size, .cells #[.string nx, .int .i64 o, .int .i64 q, .int .i64 r, .int .i64 id] 37)] (by simp [go_sem, *]) ?_
                intro W0 gW0 hl
                simp only [List.forall_mem_cons, List.not_mem_nil, false_implies, implies_true, and_true] at hl
                obtain ⟨hx0, hx00⟩ := hl
                have zhx0 := row_sz' hx0
                have zhx00 := row_sz' hx00
                have hw0 : w.grows W0 := hgw.trans gW0
                have HV0 := Lib.hid (HV.out.grows (hgk.trans gW0) fun _ _ _ h => h)
                refine wp_region_plus_seq (by kernel_rfl) (by kernel_rfl) (fun x0 => ?_)
                repeat (any_goals (first | (refine wpSeqL_free rfl ?_; first | (go_big_quiet_skip; refine wpQuiet_nil ?_) | (go_big_quiet_step (fail); refine wpQuiet_nil ?_) | (refine wpQuiet_step (fun K hK => ?_); go_simp; split <;> (refine hK _ ?_; clear hK K; refine wpQuiet_nil ?_))) | (refine wpSeqL_link rfl (fun K hK => ?_); go_simp; first | first | (refine hK _ _ (by show World.grows _ _; repeat (first | assumption | exact grA | apply grB | apply grC | apply grD)) ?_; clear hK K) | ((fail); refine ⟨_, rfl, hK _ _ (by show World.grows _ _; repeat (first | assumption | exact grA | apply grB | apply grC | apply grD)) ?_⟩; clear hK K) | (split <;> (first | (refine hK _ _ (by show World.grows _ _; repeat (first | assumption | exact grA | apply grB | apply grC | apply grD)) ?_; clear hK K) | ((fail); refine ⟨_, rfl, hK _ _ (by show World.grows _ _; repeat (first | assumption | exact grA | apply grB | apply grC | apply grD)) ?_⟩; clear hK K))))))
                have hI' := Lib.hid (slat_one (w := ((W0.plus x0).alloc (.cells #[.int .i64 q, .int .i64 r] 24))) (g := (W0.plus x0).heap.size) (e := 24) (fr := (0, 0)) (R := RtR) (x := (q, r)) (cs := [.int .i64 q, .int .i64 r]) rfl rfl (by simp [go_sem]) (by simp))
                have hgr' : W0.grows ((W0.plus x0).alloc (.cells #[.int .i64 q, .int .i64 r] 24)) := (by repeat (with_reducible first | assumption | exact grA | apply grB | apply grC | apply grD | refine grE ?_ (by omega) _ | refine grF ?_ (by omega) _ _))
                refine wpSeqL_appFullN (n := 2) (by' := 16) (z := .agg #[.int .i64 0, .int .i64 0]) rfl rfl (.tmp 65) (.tmp 72) 35 rfl 24 RtR rtC Try.underlying35 (by kernel_rfl) rfl (by omega) (by omega) (fun _ _ h => h) rtC_one (l := R) (r := [(q, r)]) rfl (by have := slN_pre (HV0.out.grows hgr' fun _ _ _ h => h) (Nat.le_refl _); rw [List.take_length] at this; exact this) rfl (by simpa using hI'.out) (by simp; omega) ?_
                intro A2 n2 c2 w2 hn2 hg2 hI2
                refine ⟨World.grows.trans (a := W0) hgr' hg2, ?_⟩
                have hgw2 : w.grows w2 := (hw0.trans hgr').trans hg2
                go_simp
                repeat (any_goals (first | (refine wpSeqL_free rfl ?_; first | (go_big_quiet_skip; refine wpQuiet_nil ?_) | (go_big_quiet_step (fail); refine wpQuiet_nil ?_) | (refine wpQuiet_step (fun K hK => ?_); go_simp; split <;> (refine hK _ ?_; clear hK K; refine wpQuiet_nil ?_))) | (refine wpSeqL_link rfl (fun K hK => ?_); go_simp; first | first | (refine hK _ _ (by show World.grows _ _; repeat (first | assumption | exact grA | apply grB | apply grC | apply grD)) ?_; clear hK K) | ((fail); refine ⟨_, rfl, hK _ _ (by show World.grows _ _; repeat (first | assumption | exact grA | apply grB | apply grC | apply grD)) ?_⟩; clear hK K) | (split <;> (first | (refine hK _ _ (by show World.grows _ _; repeat (first | assumption | exact grA | apply grB | apply grC | apply grD)) ?_; clear hK K) | ((fail); refine ⟨_, rfl, hK _ _ (by show World.grows _ _; repeat (first | assumption | exact grA | apply grB | apply grC | apply grD)) ?_⟩; clear hK K))))))
                refine wpSeqL_end ?_
                go_wp2_with fail
                go_roundg (L.length - (i + 1))
                case rel => exact ⟨i + 1, Lib.hid ⟨by omega, by omega⟩, by go_num, hgw2, Lib.hid (by rw [HSC.out, HFIN.out]; exact hI2.out)⟩
                case measure => omega
              · by_cases hcw : c3 = R.length
                · skip
                  refine abs_rows (w := wr) (G := fun W => Code.wp _ _ _ _ W) (by repeat (with_reducible first | assumption | exact grA | apply grB | apply grC | apply grD | refine grE ?_ (by omega) _ | refine grF ?_ (by omega) _ _)) [(wo.heap.size, .cells #[.string nx, .int .i64 o, .int .i64 q, .int .i64 r, .int .i64 id] 37), (wo.heap.size, .cells #[.string nx, .int .i64 o, .int .i64 q, .int .i64 r, .int .i64 id] 37)] (by simp [go_sem, *]) ?_
                  intro W0 gW0 hl
                  simp only [List.forall_mem_cons, List.not_mem_nil, false_implies, implies_true, and_true] at hl
                  obtain ⟨hx0, hx00⟩ := hl
                  have zhx0 := row_sz' hx0
                  have zhx00 := row_sz' hx00
                  have hw0 : w.grows W0 := hgw.trans gW0
                  have HV0 := Lib.hid (HV.out.grows (hgk.trans gW0) fun _ _ _ h => h)
                  refine wp_region_plus_seq (by kernel_rfl) (by kernel_rfl) (fun x0 => ?_)
                  repeat (any_goals (first | (refine wpSeqL_free rfl ?_; first | (go_big_quiet_skip; refine wpQuiet_nil ?_) | (go_big_quiet_step (fail); refine wpQuiet_nil ?_) | (refine wpQuiet_step (fun K hK => ?_); go_simp; split <;> (refine hK _ ?_; clear hK K; refine wpQuiet_nil ?_))) | (refine wpSeqL_link rfl (fun K hK => ?_); go_simp; first | first | (refine hK _ _ (by show World.grows _ _; repeat (first | assumption | exact grA | apply grB | apply grC | apply grD)) ?_; clear hK K) | ((fail); refine ⟨_, rfl, hK _ _ (by show World.grows _ _; repeat (first | assumption | exact grA | apply grB | apply grC | apply grD)) ?_⟩; clear hK K) | (split <;> (first | (refine hK _ _ (by show World.grows _ _; repeat (first | assumption | exact grA | apply grB | apply grC | apply grD)) ?_; clear hK K) | ((fail); refine ⟨_, rfl, hK _ _ (by show World.grows _ _; repeat (first | assumption | exact grA | apply grB | apply grC | apply grD)) ?_⟩; clear hK K))))))
                  have hI' := Lib.hid (slat_one (w := ((W0.plus x0).alloc (.cells #[.int .i64 q, .int .i64 r] 24))) (g := (W0.plus x0).heap.size) (e := 24) (fr := (0, 0)) (R := RtR) (x := (q, r)) (cs := [.int .i64 q, .int .i64 r]) rfl rfl (by simp [go_sem]) (by simp))
                  have hgr' : W0.grows ((W0.plus x0).alloc (.cells #[.int .i64 q, .int .i64 r] 24)) := (by repeat (with_reducible first | assumption | exact grA | apply grB | apply grC | apply grD | refine grE ?_ (by omega) _ | refine grF ?_ (by omega) _ _))
                  refine wpSeqL_appFullN (n := 2) (by' := 16) (z := .agg #[.int .i64 0, .int .i64 0]) rfl rfl (.tmp 65) (.tmp 72) 35 rfl 24 RtR rtC Try.underlying35 (by kernel_rfl) rfl (by omega) (by omega) (fun _ _ h => h) rtC_one (l := R) (r := [(q, r)]) rfl (by have := slN_pre (HV0.out.grows hgr' fun _ _ _ h => h) (Nat.le_refl _); rw [List.take_length] at this; exact this) rfl (by simpa using hI'.out) (by simp; omega) ?_
                  intro A2 n2 c2 w2 hn2 hg2 hI2
                  refine ⟨World.grows.trans (a := W0) hgr' hg2, ?_⟩
                  have hgw2 : w.grows w2 := (hw0.trans hgr').trans hg2
                  go_simp
                  repeat (any_goals (first | (refine wpSeqL_free rfl ?_; first | (go_big_quiet_skip; refine wpQuiet_nil ?_) | (go_big_quiet_step (fail); refine wpQuiet_nil ?_) | (refine wpQuiet_step (fun K hK => ?_); go_simp; split <;> (refine hK _ ?_; clear hK K; refine wpQuiet_nil ?_))) | (refine wpSeqL_link rfl (fun K hK => ?_); go_simp; first | first | (refine hK _ _ (by show World.grows _ _; repeat (first | assumption | exact grA | apply grB | apply grC | apply grD)) ?_; clear hK K) | ((fail); refine ⟨_, rfl, hK _ _ (by show World.grows _ _; repeat (first | assumption | exact grA | apply grB | apply grC | apply grD)) ?_⟩; clear hK K) | (split <;> (first | (refine hK _ _ (by show World.grows _ _; repeat (first | assumption | exact grA | apply grB | apply grC | apply grD)) ?_; clear hK K) | ((fail); refine ⟨_, rfl, hK _ _ (by show World.grows _ _; repeat (first | assumption | exact grA | apply grB | apply grC | apply grD)) ?_⟩; clear hK K))))))
                  refine wpSeqL_end ?_
                  go_wp2_with fail
                  go_roundg (L.length - (i + 1))
                  case rel => exact ⟨i + 1, Lib.hid ⟨by omega, by omega⟩, by go_num, hgw2, Lib.hid (by rw [HSC.out, HFIN.out]; exact hI2.out)⟩
                  case measure => omega
                · skip
                  refine abs_rows (w := wr) (G := fun W => Code.wp _ _ _ _ W) (by repeat (with_reducible first | assumption | exact grA | apply grB | apply grC | apply grD | refine grE ?_ (by omega) _ | refine grF ?_ (by omega) _ _)) [(wo.heap.size, .cells #[.string nx, .int .i64 o, .int .i64 q, .int .i64 r, .int .i64 id] 37), (wo.heap.size, .cells #[.string nx, .int .i64 o, .int .i64 q, .int .i64 r, .int .i64 id] 37)] (by simp [go_sem, *]) ?_
                  intro W0 gW0 hl
                  simp only [List.forall_mem_cons, List.not_mem_nil, false_implies, implies_true, and_true] at hl
                  obtain ⟨hx0, hx00⟩ := hl
                  have zhx0 := row_sz' hx0
                  have zhx00 := row_sz' hx00
                  have hw0 : w.grows W0 := hgw.trans gW0
                  have HV0 := Lib.hid (HV.out.grows (hgk.trans gW0) fun _ _ _ h => h)
                  refine wp_region_plus_seq (by kernel_rfl) (by kernel_rfl) (fun x0 => ?_)
                  repeat (any_goals (first | (refine wpSeqL_free rfl ?_; first | (go_big_quiet_skip; refine wpQuiet_nil ?_) | (go_big_quiet_step (fail); refine wpQuiet_nil ?_) | (refine wpQuiet_step (fun K hK => ?_); go_simp; split <;> (refine hK _ ?_; clear hK K; refine wpQuiet_nil ?_))) | (refine wpSeqL_link rfl (fun K hK => ?_); go_simp; first | first | (refine hK _ _ (by show World.grows _ _; repeat (first | assumption | exact grA | apply grB | apply grC | apply grD)) ?_; clear hK K) | ((fail); refine ⟨_, rfl, hK _ _ (by show World.grows _ _; repeat (first | assumption | exact grA | apply grB | apply grC | apply grD)) ?_⟩; clear hK K) | (split <;> (first | (refine hK _ _ (by show World.grows _ _; repeat (first | assumption | exact grA | apply grB | apply grC | apply grD)) ?_; clear hK K) | ((fail); refine ⟨_, rfl, hK _ _ (by show World.grows _ _; repeat (first | assumption | exact grA | apply grB | apply grC | apply grD)) ?_⟩; clear hK K))))))
                  have hI' := Lib.hid (slat_one (w := ((W0.plus x0).alloc (.cells #[.int .i64 q, .int .i64 r] 24))) (g := (W0.plus x0).heap.size) (e := 24) (fr := (0, 0)) (R := RtR) (x := (q, r)) (cs := [.int .i64 q, .int .i64 r]) rfl rfl (by simp [go_sem]) (by simp))
                  have hgr' : W0.grows ((W0.plus x0).alloc (.cells #[.int .i64 q, .int .i64 r] 24)) := (by repeat (with_reducible first | assumption | exact grA | apply grB | apply grC | apply grD | refine grE ?_ (by omega) _ | refine grF ?_ (by omega) _ _))
                  refine wpSeqL_appFullN (n := 2) (by' := 16) (z := .agg #[.int .i64 0, .int .i64 0]) rfl rfl (.tmp 65) (.tmp 72) 35 rfl 24 RtR rtC Try.underlying35 (by kernel_rfl) rfl (by omega) (by omega) (fun _ _ h => h) rtC_one (l := R) (r := [(q, r)]) rfl (by have := slN_pre (HV0.out.grows hgr' fun _ _ _ h => h) (Nat.le_refl _); rw [List.take_length] at this; exact this) rfl (by simpa using hI'.out) (by simp; omega) ?_
                  intro A2 n2 c2 w2 hn2 hg2 hI2
                  refine ⟨World.grows.trans (a := W0) hgr' hg2, ?_⟩
                  have hgw2 : w.grows w2 := (hw0.trans hgr').trans hg2
                  go_simp
                  repeat (any_goals (first | (refine wpSeqL_free rfl ?_; first | (go_big_quiet_skip; refine wpQuiet_nil ?_) | (go_big_quiet_step (fail); refine wpQuiet_nil ?_) | (refine wpQuiet_step (fun K hK => ?_); go_simp; split <;> (refine hK _ ?_; clear hK K; refine wpQuiet_nil ?_))) | (refine wpSeqL_link rfl (fun K hK => ?_); go_simp; first | first | (refine hK _ _ (by show World.grows _ _; repeat (first | assumption | exact grA | apply grB | apply grC | apply grD)) ?_; clear hK K) | ((fail); refine ⟨_, rfl, hK _ _ (by show World.grows _ _; repeat (first | assumption | exact grA | apply grB | apply grC | apply grD)) ?_⟩; clear hK K) | (split <;> (first | (refine hK _ _ (by show World.grows _ _; repeat (first | assumption | exact grA | apply grB | apply grC | apply grD)) ?_; clear hK K) | ((fail); refine ⟨_, rfl, hK _ _ (by show World.grows _ _; repeat (first | assumption | exact grA | apply grB | apply grC | apply grD)) ?_⟩; clear hK K))))))
                  refine wpSeqL_end ?_
                  go_wp2_with fail
                  go_roundg (L.length - (i + 1))
                  case rel => exact ⟨i + 1, Lib.hid ⟨by omega, by omega⟩, by go_num, hgw2, Lib.hid (by rw [HSC.out, HFIN.out]; exact hI2.out)⟩
                  case measure => omega
      · rw [if_neg (fun e => hn e.1)] at hsc
        have hq : ¬ nx.toList = nm.toList := by rw [ByteArray.toList_eq, ByteArray.toList_eq, nameEq]; exact hn
        have HSC := Lib.hid hsc
        clear hsc hI
        go_wp2_with fail
        go_roundg (L.length - (i + 1))
        case rel => exact ⟨i + 1, Lib.hid ⟨by omega, by omega⟩, by go_num, (by repeat (with_reducible first | assumption | exact grA | apply grB | apply grC | apply grD | refine grE ?_ (by omega) _ | refine grF ?_ (by omega) _ _)), Lib.hid (by rw [HSC.out]; exact HV.out.grows (by repeat (with_reducible first | assumption | exact grA | apply grB | apply grC | apply grD | refine grE ?_ (by omega) _ | refine grF ?_ (by omega) _ _)) fun _ _ _ h => h)⟩
        case measure => omega
    · have i1 : ¬ (i : Int) < (L.length : Int) := by omega
      obtain rfl : i = L.length := by omega
      rw [List.take_length] at HV hln
      obtain ⟨n3, c3, rfl, hc3, hc4⟩ := HV.out.len
      have HW := Lib.hid HV.out
      have hL := HL.out
      clear HV
      generalize wantR nm L = R at *
      go_upto_region 16 with (first
        | (go_at_call 12; go_loud ((with_reducible refine (C1.out _ _ (H1.out.grows (World.grows.trans hg (by repeat (with_reducible first | assumption | exact grA | apply grB | apply grC | apply grD | refine grE ?_ (by omega) _ | refine grF ?_ (by omega) _ _))) fun _ _ _ h => h)).mono ?_); rintro e w2 ⟨ix, B, rfl, hg2, HI⟩))
        | (go_at_call 19; go_loud ((with_reducible refine (C2.out _ ix B (Idx.grows HI.out (by repeat (with_reducible first | assumption | exact grA | apply grB | apply grC | apply grD | refine grE ?_ (by omega) _ | refine grF ?_ (by omega) _ _)))).mono ?_); rintro e w3 ⟨v3, rfl, hg3, HP⟩; obtain ⟨a3, d3, rfl, _, _⟩ := HP.out.len)))
      have r23 : wr.grows w3 := World.grows.trans (World.grows.trans (by repeat (with_reducible first | assumption | exact grA | apply grB | apply grC | apply grD | refine grE ?_ (by omega) _ | refine grF ?_ (by omega) _ _)) hg2) hg3
      have HW3 := Lib.hid (HW.out.grows r23 fun _ _ _ h => h)
      have k3 : w.grows w3 := hg.trans r23
      go_wp2_with fail
      go_loopg [86] R.length (fun gn v86 wj => ∃ k : Nat, Hid (gn + k = R.length ∧ k ≤ R.length) ∧ v86 = .int .i64 k ∧ w3.grows wj)
      case atStart => exact ⟨0, Lib.hid ⟨by simp, Nat.zero_le _⟩, by go_num, (by repeat (with_reducible first | assumption | exact grA | apply grB | apply grC | apply grD | refine grE ?_ (by omega) _ | refine grF ?_ (by omega) _ _))⟩
      case round =>
        obtain ⟨k, HK3, rfl, hgk⟩ := hrel
        obtain ⟨j3, j4⟩ := HK3.out
        by_cases hkl : k < R.length
        · have n5 : (k : Int) < (R.length : Int) := by omega
          have hky := List.getElem?_eq_getElem hkl
          obtain ⟨_, _, e7, _, _, b7⟩ := HW3.out
          injection e7 with e7 e8 e9
          clear e8
          subst e7; subst e9
          rcases b7 with h0 | ⟨g3, off3, rfl, _, h7⟩
          · rw [h0] at hkl; simp at hkl
          obtain ⟨cs3, _, el3, rfl⟩ := h7 k _ hky
          replace el3 := el3.grows hgk
          obtain ⟨_, _, e7, _, _, b8⟩ := HP.out
          injection e7 with e7 e8 e9
          clear e8
          subst e7; subst e9
          rcases b8 with h0 | ⟨g4, off4, rfl, _, h8⟩
          · rw [h0] at hkl; simp at hkl
          obtain ⟨cs4, _, el4, rfl⟩ := h8 k _ hky
          replace el4 := el4.grows hgk
          have e3 : segOk (off3 + k * 2) 2 (wr.row g3) = true := el3.1
          have e4 : segV (off3 + k * 2) 2 (wr.row g3) = .agg #[.int .i64 R[k].1, .int .i64 R[k].2] := el3.2
          have e5 : segOk (off4 + k * 2) 2 (wr.row g4) = true := el4.1
          have e6 : segV (off4 + k * 2) 2 (wr.row g4) = .agg #[.int .i64 R[k].1, .int .i64 R[k].2] := el4.2
          have zg3 := lt_sz el3.lt
          have zg4 := lt_sz el4.lt
          clear el3 el4 h7 h8 hky
          generalize R[k] = y at *
          obtain ⟨y1, y2⟩ := y
          simp only at e4 e6
          go_upto_region 21 with fail
          refine wp_region_plus_lit (by kernel_rfl) (by kernel_rfl) ?_
          repeat (go_big_quiet_step (fail))
          (refine wpQuiet_nil ?_; intro _ hw'; obtain ⟨xq, hw''⟩ := hw'; subst hw'')
          go_wp2_with fail
          go_roundg (R.length - (k + 1))
          case rel => exact ⟨k + 1, Lib.hid ⟨by omega, by omega⟩, by go_num, (by repeat (with_reducible first | assumption | exact grA | apply grB | apply grC | apply grD | refine grE ?_ (by omega) _ | refine grF ?_ (by omega) _ _))⟩
          case measure => omega
        · have n5 : ¬ (k : Int) < (R.length : Int) := by omega
          have kwr := k3.trans hgk
          go_wp2_with (go_at_call 16; (with_reducible refine (awake24_any _).mono ?_); rintro e w9 ⟨rfl, x9, rfl⟩)
          go_ret
          exact ⟨rfl, (by repeat (with_reducible first | assumption | exact grA | apply grB | apply grC | apply grD | refine grE ?_ (by omega) _ | refine grF ?_ (by omega) _ _))⟩

theorem pointPlaces_own : ownKnob Try.prog.godebug = none := by kernel_rfl
theorem pointPlaces_laidOut : laidOutB Try.prog = true := by kernel_rfl
set_option maxRecDepth 100000 in
set_option maxHeartbeats 2000000 in
theorem pointPlaces_lifted (os : Os) (started : os.Started) (H : Type) (enc : TypeId × Value → H) :
    ReturnsInHanded {} Try.checked os 4 .any (Rows.pointPlacesSpec.pre6 enc Try.prog Try.f4 Rows.pointPlacesRow.domain false) (Rows.pointPlacesSpec.post enc Try.prog Try.f4 false true false false) := by
  refine returnsInHanded_of_change (C := Try.checked) pointPlaces_own started (by kernel_rfl) Try.func4
    (ChangeSpec.witness6 (enc := enc) (C := Try.checked) false ⟨#[], #[.slice none 0 0, .string ByteArray.empty], []⟩ 8 (by kernel_rfl) (by kernel_rfl) (by kernel_rfl) (by kernel_rfl)) ?_
  intro W base args ds gs before hval0 hW hcnd _
  have hval : ∀ (j : Nat) t v, Try.f4.params[j]? = some t → args[j]? = some v → Value.okWide Try.prog W .any base t v := hval0
  have hW' := hW
  obtain ⟨p, q, hA0, hV, rfl, hfz, hnd⟩ := hW
  have hA : DataW.TrodAll enc Try.prog W 0 (fun _ => true) true Try.f4.params.toList args.toList ds p := hA0
  rw [Try.params4] at hA hval
  obtain ⟨v0, vs0, d0, ds0, p0, q0, hargs, rfl, rfl, h0, r0⟩ := trodAll_cons hA
  obtain ⟨v1, vs1, d1, ds1, p1, q1, rfl, rfl, rfl, h1, r1⟩ := trodAll_cons r0
  obtain ⟨rfl, rfl, rfl⟩ := trodAll_nil r1
  obtain rfl : args = #[v0, v1] := by cases args; simp_all
  obtain ⟨rfl, rfl⟩ := trodVars_none hV
  have k0 := h0
  have lt0 : ∀ x ∈ p0, x.block < W.heap.size := by obtain ⟨m, hm⟩ := k0; exact DataW.trod_lt m _ _ _ hm
  have k1 := h1
  have lt1 : ∀ x ∈ p1, x.block < W.heap.size := by obtain ⟨m, hm⟩ := k1; exact DataW.trod_lt m _ _ _ hm
  obtain ⟨l, h_l⟩ := lines_arg (hval 0 22 v0 rfl rfl) h0
  obtain ⟨nm, rfl, _, _, wnm⟩ := open_string Try.underlying9 (hval 1 9 v1 rfl rfl) h1
  clear hA0 hval0
  refine (pointPlaces_any v0 l nm W h_l wnm).mono fun e W' ⟨he, grw⟩ => ?_
  subst he
  have bel := grw.below
  exact ⟨_, rfl, _, _, _, [], _, [], hW', trodAll_mk1 (shut_bool Try.underlying4 _), (trodAll_cons_mk (Below.trod pointPlaces_laidOut (by kernel_rfl) (of_decide_eq_true (by kernel_rfl)) k0 bel lt0) (trodAll_cons_mk (Below.trod pointPlaces_laidOut (by kernel_rfl) (of_decide_eq_true (by kernel_rfl)) k1 bel lt1) trodAll_mk0)), rfl, bel.frame _, fun h => by cases h⟩

/-- THE STATEMENT -/
theorem pointPlaces_holds : Rows.PointPlacesSaid :=
  OpenClaim.holds_of_wide 4 Try.f4 rfl rfl rfl rfl rfl rfl rfl ⟨rfl, rfl, rfl, rfl, rfl⟩ rfl rfl rfl rfl rfl (by kernel_rfl) Try.func4 (by kernel_rfl)
    (of_decide_eq_true (by kernel_rfl)) (by unfold Func.isWrapper; first | (rw [if_pos (by decide +kernel)]; kernel_rfl) | (rw [if_neg (by decide +kernel)]; exact ⟨rfl, rfl⟩))
    (fun os started H enc _ => pointPlaces_lifted os started H enc)
#print axioms pointPlaces_holds
end Go.Proofs.Ytjfccilmlmimaaa


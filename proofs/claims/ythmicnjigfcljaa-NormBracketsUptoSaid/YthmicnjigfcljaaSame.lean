/- WALK: two readings of one form are the same. No condition but that the form stands in memory, twice. (printed by wip/mksame.py) -/
import Derived.Test.YthmicnjigfcljaaMq
import Derived.Test.YthmicnjigfcljaaMa
set_option linter.unusedSimpArgs false
set_option linter.unusedVariables false
namespace Go.Proofs.Ythmicnjigfcljaa
open Go.RowKit

set_option maxRecDepth 100000 in
theorem eq_units (w : World) (us : List (Int × Int)) (h : us.length = 7) (d : Nat) (hd : d = 10000 ∨ d = 9999) : (Op.equalIn d 27 (.agg (unitC us).toArray) (.agg (unitC us).toArray)).run Try.prog w = .ok true w := by
  match us, h with
  | [p0, p1, p2, p3, p4, p5, p6], _ =>
    show (Op.equalIn d 27 (.agg #[.int .i64 p0.1, .int .i64 p0.2, .int .i64 p1.1, .int .i64 p1.2, .int .i64 p2.1, .int .i64 p2.2, .int .i64 p3.1, .int .i64 p3.2, .int .i64 p4.1, .int .i64 p4.2, .int .i64 p5.1, .int .i64 p5.2, .int .i64 p6.1, .int .i64 p6.2]) (.agg #[.int .i64 p0.1, .int .i64 p0.2, .int .i64 p1.1, .int .i64 p1.2, .int .i64 p2.1, .int .i64 p2.2, .int .i64 p3.1, .int .i64 p3.2, .int .i64 p4.1, .int .i64 p4.2, .int .i64 p5.1, .int .i64 p5.2, .int .i64 p6.1, .int .i64 p6.2])).run Try.prog w = .ok true w
    rcases hd with rfl | rfl <;> simp [go_sem]
@[go_sem high] theorem eq_units1 (w : World) (us : List (Int × Int)) (h : us.length = 7) : (Op.equalIn 10000 27 (.agg (unitC us).toArray) (.agg (unitC us).toArray)).run Try.prog w = .ok true w := eq_units w us h _ (.inl rfl)
@[go_sem high] theorem eq_units2 (w : World) (us : List (Int × Int)) (h : us.length = 7) : (Op.equalIn 9999 27 (.agg (unitC us).toArray) (.agg (unitC us).toArray)).run Try.prog w = .ok true w := eq_units w us h _ (.inr rfl)

def sameIH (m : Nat) : Prop := ∀ (f : Fm) (cs cs' : List Value) (w : World) (S S' : Nat → Prop), FormAt w S m f cs → FormOk w S' f cs' →
    Calls Try.prog 26 #[.agg cs.toArray, .agg cs'.toArray] w (Gives w (.bool true))

set_option maxRecDepth 100000 in
set_option maxHeartbeats 8000000 in
theorem same_step (m : Nat) (IH0 : sameIH m) (us : List (Int × Int)) (ps : List (Bool × List Fm)) (a0 b0 : Option Addr) (c0 d0 : Nat) (w : World) (S S' : Nat → Prop) (hu7 : us.length = 7)
    (hps : SlAt w S 2 (PartR (FormAt w S m) w S) (.slice a0 ps.length c0) ps) (hps' : SlAt w S' 2 (PartR (FormOk w S') w S') (.slice b0 ps.length d0) ps) :
    Calls Try.prog 26 #[.agg (formC us (.slice a0 ps.length c0)).toArray, .agg (formC us (.slice b0 ps.length d0)).toArray] w (Gives w (.bool true)) := by
  have IH := Lib.hid IH0; have HP := Lib.hid hps; have HP' := Lib.hid hps'
  clear IH0 hps hps'
  go_enter Try.func26, Try.ntmps26
  go_wp2_with fail
  go_loopg [26] ps.length (fun gn v26 wj => ∃ k : Nat, Hid (gn + k = ps.length) ∧ k ≤ ps.length ∧ v26 = .int .i64 k ∧ w.grows wj ∧ wj.row w.heap.size = some (.cells (formC us (.slice a0 ps.length c0)).toArray 30) ∧ wj.row (w.heap.size + 1) = some (.cells (formC us (.slice b0 ps.length d0)).toArray 30))
  case atStart => exact ⟨0, rfl, Nat.zero_le _, rfl, (by repeat (with_reducible first | assumption | exact grA | apply grB | apply grC | apply grD | refine grE ?_ (by omega) _ | refine grF ?_ (by omega) _ _)), by simp [go_sem], by simp [go_sem]⟩
  case round =>
    obtain ⟨k, HK, hk, rfl, hg, hx0, hx1⟩ := hrel
    have z0 := row_sz' hx0; have z1 := row_sz' hx1
    by_cases hlt : k < ps.length
    · obtain ⟨a0', cap0, e0, hl0, hc0, hE0⟩ := HP.out
      injection e0 with e1 e2 e3
      subst e1; subst e3
      obtain ⟨b0', cap0', e0', hl0', hc0', hE0'⟩ := HP'.out
      injection e0' with e1 e2 e3
      subst e1; subst e3
      rcases hE0 with h | ⟨gA, offA, rfl, hSg, hcell⟩
      · rw [h] at hlt; cases hlt
      rcases hE0' with h | ⟨gB, offB, rfl, hSg', hcell'⟩
      · rw [h] at hlt; cases hlt
      obtain ⟨cs1, hl2, hel, v1, rfl, hsl⟩ := hcell k ps[k] (by simp [hlt])
      obtain ⟨cs2, hl2', hel', v2, rfl, hsl'⟩ := hcell' k ps[k] (by simp [hlt])
      have he := hel.grows hg
      have he' := hel'.grows hg
      unfold eltAt at he he'
      have zA := lt_sz (hel.grows hg).lt
      have zB := lt_sz (hel'.grows hg).lt
      generalize ps[k] = p at *
      obtain ⟨b, args⟩ := p
      obtain ⟨a1, c1, rfl, hn1, hn2⟩ := hsl.len
      obtain ⟨a2, c2, rfl, hn1', hn2'⟩ := hsl'.len
      have e3 : segOk (offA + k * 2) 2 (wr.row gA) = true := he.1
      have e4 : segV (offA + k * 2) 2 (wr.row gA) = .agg #[.bool b, .slice a1 args.length c1] := he.2
      have e3' : segOk (offB + k * 2) 2 (wr.row gB) = true := he'.1
      have e4' : segV (offB + k * 2) 2 (wr.row gB) = .agg #[.bool b, .slice a2 args.length c2] := he'.2
      have HSL := Lib.hid hsl; have HSL' := Lib.hid hsl'
      have hbs : w.heap.size ≤ wr.heap.size := hg.below.size
      have hb0 : w.heap.size < wr.heap.size := by have := z0.1; omega
      have hb1 : w.heap.size + 1 < wr.heap.size := by have := z1.1; omega
      clear hcell hcell' hel hel' he he' hsl hsl' hl2 hl2'
      go_upto_region 6 with fail
      go_cut [6, 7] (fun s6 s7 wx => ∃ g q : Nat, s6 = .pointer (some ⟨g, 0, none⟩) ∧ s7 = .pointer (some ⟨q, 0, none⟩) ∧ g ≠ q ∧ w.heap.size + 1 < g ∧ w.heap.size + 1 < q ∧ wx.row g = some (.cells #[.bool b, .slice a1 args.length c1] 76) ∧ wx.row q = some (.cells #[.bool b, .slice a2 args.length c2] 76) ∧
        wx.row w.heap.size = some (.cells (formC us (.slice (some ⟨gA, offA, none⟩) ps.length c0)).toArray 30) ∧ wx.row (w.heap.size + 1) = some (.cells (formC us (.slice (some ⟨gB, offB, none⟩) ps.length d0)).toArray 30) ∧ w.grows wx)
      case first =>
        go_region_held3 (fun w' => w'.row w.heap.size = some (.cells (formC us (.slice (some ⟨gA, offA, none⟩) ps.length c0)).toArray 30) ∧ w'.row (w.heap.size + 1) = some (.cells (formC us (.slice (some ⟨gB, offB, none⟩) ps.length d0)).toArray 30) ∧
          segOk (offA + k * 2) 2 (w'.row gA) = true ∧ segV (offA + k * 2) 2 (w'.row gA) = .agg #[.bool b, .slice a1 args.length c1] ∧ segOk (offB + k * 2) 2 (w'.row gB) = true ∧ segV (offB + k * 2) 2 (w'.row gB) = .agg #[.bool b, .slice a2 args.length c2] ∧
          gA < w'.heap.size ∧ gB < w'.heap.size ∧ w.heap.size < w'.heap.size ∧ w.heap.size + 1 < w'.heap.size ∧ w.grows w') ((try refine ⟨?_, ?_, ?_, ?_, ?_, ?_, ?_, ?_, ?_, ?_, ?_⟩) <;> first | (simp [go_sem, *]; done) | (repeat (with_reducible first | assumption | exact grA | apply grB | apply grC | apply grD | refine grE ?_ (by omega) _))) (fail)
        all_goals (go_wp2_with fail; go_meet; refine ⟨_, _, rfl, rfl, by omega, by omega, by omega, by simp [go_sem, *], by simp [go_sem, *], by simp [go_sem, *], by simp [go_sem, *], (by repeat (with_reducible first | assumption | exact grA | apply grB | apply grC | apply grD | refine grE ?_ (by omega) _ | refine grF ?_ (by omega) _ _))⟩)
      case rest =>
        clear hx0 hx1 e3 e4 e3' e4' zA zB hg hbs hb0 hb1 z0 z1
        obtain ⟨g, q, rfl, rfl, hgq, hg0, hq0, hy, hy', hx0, hx1, hg⟩ := hcut
        have z1 := row_sz' hy; have z2 := row_sz' hy'; have z3 := row_sz' hx0; have z4 := row_sz' hx1
        go_wp2_with fail
        go_loopg [56] args.length (fun gn v56 wj => ∃ j : Nat, Hid (gn + j = args.length) ∧ j ≤ args.length ∧ v56 = .int .i64 j ∧ wj.row g = some (.cells #[.bool b, .slice a1 args.length c1] 76) ∧ wj.row q = some (.cells #[.bool b, .slice a2 args.length c2] 76) ∧
          wj.row w.heap.size = some (.cells (formC us (.slice (some ⟨gA, offA, none⟩) ps.length c0)).toArray 30) ∧ wj.row (w.heap.size + 1) = some (.cells (formC us (.slice (some ⟨gB, offB, none⟩) ps.length d0)).toArray 30) ∧ w.grows wj)
        case atStart => exact ⟨0, rfl, Nat.zero_le _, rfl, hy, hy', hx0, hx1, hg⟩
        case round =>
          clear hy hy' hx0 hx1 z1 z2 z3 z4 hg
          obtain ⟨j, HK2, hj, rfl, hy, hy', hx0, hx1, hg⟩ := hrel
          have z1 := row_sz' hy; have z2 := row_sz' hy'; have z3 := row_sz' hx0; have z4 := row_sz' hx1
          by_cases hlt2 : j < args.length
          · obtain ⟨a1', cap1, e0, hl1, hc1, hE1⟩ := HSL.out
            injection e0 with e1 e2 e3
            subst e1; subst e3
            obtain ⟨a2', cap2, e0', hl1', hc1', hE1'⟩ := HSL'.out
            injection e0' with e1 e2 e3
            subst e1; subst e3
            rcases hE1 with h | ⟨g2, off2, rfl, hSg2, hcell2⟩
            · rw [h] at hlt2; cases hlt2
            rcases hE1' with h | ⟨g4, off4, rfl, hSg4, hcell4⟩
            · rw [h] at hlt2; cases hlt2
            obtain ⟨cs3, hl15, hel2, hfa⟩ := hcell2 j args[j] (by simp [hlt2])
            obtain ⟨cs4, hl15', hel4, hfb⟩ := hcell4 j args[j] (by simp [hlt2])
            have he2 := hel2.grows hg
            have he4 := hel4.grows hg
            unfold eltAt at he2 he4
            rw [hl15] at he2
            rw [hl15'] at he4
            have zr2 := lt_sz (hel2.grows hg).lt
            have zr4 := lt_sz (hel4.grows hg).lt
            have e5 : segOk (off2 + j * 15) 15 (wr.row g2) = true := he2.1
            have e6 : segV (off2 + j * 15) 15 (wr.row g2) = .agg cs3.toArray := he2.2
            have e5' : segOk (off4 + j * 15) 15 (wr.row g4) = true := he4.1
            have e6' : segV (off4 + j * 15) 15 (wr.row g4) = .agg cs4.toArray := he4.2
            have c3 := fun W (hW : w.grows W) => IH.out args[j] cs3 cs4 W S S' (hfa.grows hW) (hfb.grows hW)
            generalize args[j] = f at *
            obtain ⟨us3, ps3⟩ := f
            obtain ⟨hu37, _, v3, rfl, hs3⟩ := FormOk_us (⟨m, hfa⟩ : FormOk w S _ _)
            obtain ⟨hu47, _, v4, rfl, hs4⟩ := FormOk_us hfb
            obtain ⟨a3, c3', rfl, hn31, hn32⟩ := hs3.len
            obtain ⟨a4, c4', rfl, hn41, hn42⟩ := hs4.len
            have C3 := Lib.hid c3
            clear c3 hfa hfb hs3 hs4 hel2 hel4 he2 he4 hcell2 hcell4 hl15 hl15' HSL HSL' HP HP' IH
            go_wp2_with fail
            refine wp_region_plus_lit (by kernel_rfl) (by kernel_rfl) ?_
            repeat (go_big_quiet_step ((go_at_call 26; (with_reducible exact Calls.plus_of (C3.out _ (by repeat (with_reducible first | assumption | exact grA | apply grB | apply grC | apply grD | refine grE ?_ (by omega) _ | refine grF ?_ (by omega) _ _)))))))
            (refine wpQuiet_nil ?_; intro _ hw'; obtain ⟨xq, hw''⟩ := hw'; subst hw'')
            go_wp2_with fail
            go_roundg (args.length - (j + 1))
            case rel => exact ⟨j + 1, Lib.hid (by omega), by omega, by go_num, by simp [go_sem, hy, z1], by simp [go_sem, hy', z2], by simp [go_sem, hx0, z3], by simp [go_sem, hx1, z4], (by repeat (with_reducible first | assumption | exact grA | apply grB | apply grC | apply grD | refine grE ?_ (by omega) _ | refine grF ?_ (by omega) _ _))⟩
            case measure => have := HK2.out; omega
          · obtain rfl : j = args.length := by omega
            go_wp2_with fail
            go_roundg (ps.length - (k + 1))
            case rel => exact ⟨k + 1, Lib.hid (by omega), by omega, by go_num, (by repeat (with_reducible first | assumption | exact grA | apply grB | apply grC | apply grD | refine grE ?_ (by omega) _ | refine grF ?_ (by omega) _ _)), by simp [go_sem, hx0, z3], by simp [go_sem, hx1, z4]⟩
            case measure => have := HK.out; omega
    · obtain rfl : k = ps.length := by omega
      go_wp2_with fail
      go_ret
      exact ⟨rfl, (by repeat (with_reducible first | assumption | exact grA | apply grB | apply grC | apply grD | refine grE ?_ (by omega) _ | refine grF ?_ (by omega) _ _))⟩

theorem same_all : ∀ (m : Nat), sameIH m
  | 0 => fun _ _ _ _ _ _ h _ => h.elim
  | m + 1 => by
    intro f cs cs' w S S' h h'
    obtain ⟨us, ps⟩ := f
    have IH := same_all m
    obtain ⟨hu7, _, v, rfl, hps⟩ := h
    obtain ⟨a, cap, rfl, _⟩ := hps.len
    obtain ⟨_, _, v', rfl, hps'⟩ := FormOk_us h'
    obtain ⟨b, cap', rfl, _⟩ := hps'.len
    exact same_step m IH us ps a b cap cap' w S S' hu7 hps hps'
/-- two readings of one form are the same -/
theorem same_any (f : Fm) (cs cs' : List Value) (w : World) (S S' : Nat → Prop) (h : FormOk w S f cs) (h' : FormOk w S' f cs') :
    Calls Try.prog 26 #[.agg cs.toArray, .agg cs'.toArray] w (Gives w (.bool true)) := by
  obtain ⟨m, h⟩ := h
  exact same_all m f cs cs' w S S' h h'
end Go.Proofs.Ythmicnjigfcljaa


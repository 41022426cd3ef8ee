/- WALK over the document's answer: jalousieref12.Scale: a form by a number. No condition but that the form stands in memory and has not too many parts. -/
import Derived.Test.YthmicnjigfcljaaRFmAdd
import Derived.Test.YthmicnjigfcljaaRFmPick
import Derived.Test.YthmicnjigfcljaaMo
set_option linter.unusedSimpArgs false
set_option linter.unusedVariables false
namespace Go
open Go.RowKit
theorem plainS_may (k : Int × Int) (us : List (Int × Int)) : mayUF (plainS k us) := units_may fun p hp => by
  obtain ⟨r, _, rfl⟩ := List.mem_map.1 hp
  exact foldQ_isMay (fun _ _ => mulQ_over) (fun p q => mulQ_may p q) (by decide) _
theorem scaleList_may (k : Int × Int) (us : List (Int × Int)) (ps : List (Bool × List Fm)) : ∀ f ∈ plainS k us :: scaleP k ps, mayUF f := by
  intro f hf
  rcases List.mem_cons.1 hf with rfl | hf
  · exact plainS_may k us
  · rw [scaleP_map] at hf
    obtain ⟨p, _, rfl⟩ := List.mem_map.1 hf
    exact pickF_may _ fun g hg => by
      obtain ⟨x, _, rfl⟩ := List.mem_map.1 hg
      exact scaleF_may k x
end Go
namespace Go.Proofs.Ythmicnjigfcljaa
open Go.RowKit

def RScaleIH (m : Nat) : Prop := ∀ (f : Fm) (cs : List Value) (k1 k2 : Int) (w : World) (S : Nat → Prop), (∀ g, w.heap.size ≤ g → S g) → FormAt w S m f cs → I64 k1 → I64 k2 → szF f ≤ 4194304 →
    Calls Try.prog 29 #[.agg cs.toArray, .agg #[.int .i64 k1, .int .i64 k2]] w (FormP w S (scaleF (cleanQ (k1, k2)) f))

set_option maxRecDepth 100000 in
set_option maxHeartbeats 8000000 in
theorem rscale_step (m : Nat) (IH0 : RScaleIH m) (us : List (Int × Int)) (ps : List (Bool × List Fm)) (a0 : Option Addr) (c0 : Nat) (r1 r2 k1 k2 : Int) (w : World) (S : Nat → Prop) (hS : ∀ g, w.heap.size ≤ g → S g) (hu7 : us.length = 7) (hub : ∀ p ∈ us, I64p p)
    (hps : SlAt w S 2 (PartR (FormAt w S m) w S) (.slice a0 ps.length c0) ps) (wr1 : I64 r1) (wr2 : I64 r2) (hr : cleanQ (r1, r2) = (k1, k2)) (hsz : szF (.mk us ps) ≤ 4194304) :
    Calls Try.prog 29 #[.agg (formC us (.slice a0 ps.length c0)).toArray, .agg #[.int .i64 r1, .int .i64 r2]] w (FormP w S (scaleF (k1, k2) (.mk us ps))) := by
  have hKK : cleanQ (k1, k2) = (k1, k2) := by rw [← hr]; exact cleanQ_may (cleanQ_isMay _)
  have hkb : I64p (k1, k2) := by rw [← hr]; exact cleanQ_bd ⟨wr1, wr2⟩
  have wk1 : I64 k1 := hkb.1
  have wk2 : I64 k2 := hkb.2
  have c0' : ∀ W, Calls Try.prog 60 #[.agg #[.int .i64 r1, .int .i64 r2]] W (Gives W (.agg #[.int .i64 k1, .int .i64 k2])) := fun W => by
    have := refClean_any r1 r2 W wr1 wr2
    rw [hr] at this; exact this
  have IH1 : ∀ (f : Fm) (cs : List Value) (w : World) (S : Nat → Prop), (∀ g, w.heap.size ≤ g → S g) → FormAt w S m f cs → szF f ≤ 4194304 → Calls Try.prog 29 #[.agg cs.toArray, .agg #[.int .i64 k1, .int .i64 k2]] w (FormP w S (scaleF (k1, k2) f)) := fun f cs w S h1 h2 h3 => by
    have := IH0 f cs k1 k2 w S h1 h2 wk1 wk2 h3
    rw [hKK] at this; exact this
  have hpsl : ps.length ≤ 4194304 := by have := ps_len (.mk us ps); show ps.length ≤ _; have e : (Fm.mk us ps).ps = ps := rfl; rw [e] at this; omega
  obtain ⟨S1, hS1⟩ : ∃ S1 : Nat → Prop, ∀ g, S1 g ↔ (S g ∧ g ≠ w.heap.size + 1 + 1) := ⟨_, fun _ => Iff.rfl⟩
  have hSn : ∀ g, w.heap.size + 1 + 1 + 1 ≤ g → S1 g := fun g h => (hS1 g).2 ⟨hS g (by omega), by omega⟩
  have hSo : ∀ g, S g → g < w.heap.size → S1 g := fun g h h2 => (hS1 g).2 ⟨h, by omega⟩
  have hSd : ∀ g, S1 g → S g ∧ g ≠ w.heap.size + 1 + 1 := fun g h => (hS1 g).1 h
  have HSN := Lib.hid hSn; have HSO := Lib.hid hSo; have HSD := Lib.hid hSd; clear hS1 hSn hSo hSd
  have HP := Lib.hid hps; have HS := Lib.hid hS; have HUB := Lib.hid hub; have HSZ := Lib.hid hsz; have IH := Lib.hid IH1; have C0 := Lib.hid c0'; have WK := Lib.hid (And.intro wk1 wk2)
  clear hps hS hub hsz IH0 IH1 c0' wk1 wk2 wr1 wr2 hr hKK hkb
  go_enter Try.func29, Try.ntmps29
  go_wp2_with (first | (go_at_call 60; (with_reducible refine (C0.out _).mono ?_); rintro e w1 ⟨rfl, x1, rfl⟩))
  generalize ho : w.heap.size + 1 + 1 + 1 + x1.bs.size = o
  have ho1 : w.heap.size + 1 + 1 < o := by omega
  have ne1 : (w.heap.size = o) = False := by apply eq_false; omega
  have ne2 : (o = w.heap.size) = False := by apply eq_false; omega
  have ne3 : (w.heap.size + 1 = o) = False := by apply eq_false; omega
  have ne4 : (o = w.heap.size + 1) = False := by apply eq_false; omega
  have ne5 : (w.heap.size + 1 + 1 = o) = False := by apply eq_false; omega
  have ne6 : (o = w.heap.size + 1 + 1) = False := by apply eq_false; omega
  go_loopg [16] 7 (fun gn v16 wj => ∃ i : Nat, Hid (gn + i = 7) ∧ i ≤ 7 ∧ v16 = .int .i64 i ∧ w.grows wj ∧ wj.row w.heap.size = some (.cells (formC us (.slice a0 ps.length c0)).toArray 30) ∧ wj.row (w.heap.size + 1) = some (.cells #[.int .i64 k1, .int .i64 k2] 23) ∧
    wj.row (w.heap.size + 1 + 1) = some (.cells (formC (zs 0) (.slice none 0 0)).toArray 30) ∧ wj.row o = some (.cells (formC (scU (k1, k2) us i) (.slice none 0 0)).toArray 30))
  case atStart => exact ⟨0, rfl, by omega, rfl, (by repeat (with_reducible first | assumption | exact grA | apply grB | apply grC | apply grD | refine grE ?_ (by omega) _ | refine grF ?_ (by omega) _ _)), by simp [go_sem, ho, ne1, ne2, ne3, ne4, ne5, ne6], by simp [go_sem, ho, ne1, ne2, ne3, ne4, ne5, ne6], by simp [go_sem, ho, ne1, ne2, ne3, ne4, ne5, ne6]; rfl, by simp [go_sem, ho, ne1, ne2, ne3, ne4, ne5, ne6]; rfl⟩
  case round =>
    obtain ⟨i, HK, hi, rfl, hg, hx0, hx1, hx2, hx3⟩ := hrel
    have z0 := row_sz' hx0; have z1 := row_sz' hx1; have z2 := row_sz' hx2; have z3 := row_sz' hx3
    by_cases hi7 : i < 7
    · have hb := uGet_bd HUB.out i
      have hset : setL (formC (scU (k1, k2) us i) (.slice none 0 0)).toArray (i * 2) [.int .i64 (foldQ (1, 1) mulQ [uGet us i, (k1, k2)]).1, .int .i64 (foldQ (1, 1) mulQ [uGet us i, (k1, k2)]).2] = (formC (scU (k1, k2) us (i + 1)) (.slice none 0 0)).toArray := by
        have := formC_set (us := scU (k1, k2) us i) (v := .slice none 0 0) (i := i) (by rw [scU_len]; exact hi7) (foldQ (1, 1) mulQ [uGet us i, (k1, k2)])
        rw [scU_set _ us hi7] at this; exact this
      have m1 : ∀ W G, W.row G = some (.cells #[.int .i64 (uGet us i).1, .int .i64 (uGet us i).2, .int .i64 k1, .int .i64 k2] 23) → Calls Try.prog 44 #[.slice (some ⟨G, 0, none⟩) 2 2] W (Gives W (ratV (foldQ (1, 1) mulQ [uGet us i, (k1, k2)]))) :=
        fun W G h => refMulL_any _ _ W (rats2 h hb ⟨WK.out.1, WK.out.2⟩)
      generalize foldQ (1, 1) mulQ [uGet us i, (k1, k2)] = R at *
      obtain ⟨R1, R2⟩ := R
      have M1 := Lib.hid m1; have HT := Lib.hid hset
      have hi2 : i * 2 + 2 ≤ 15 := by omega
      have hget : segV (i * 2) 2 (some (.cells (formC us (.slice a0 ps.length c0)).toArray 30)) = ratV (uGet us i) := by rw [uGet_eq (by omega)]; exact formC_get (by omega)
      clear m1 hset hb
      go_wp2_with fail
      refine wp_region_plus_seq_tail 10 (by kernel_rfl) (by kernel_rfl) (fun x0 => ?_)
      simp only [List.take_succ_cons, List.take_zero, List.drop_succ_cons, List.drop_zero]
      repeat (any_goals (first | (refine wpSeqL_free rfl ?_; first | (go_big_quiet_skip; refine wpQuiet_nil ?_) | (go_big_quiet_step (fail); refine wpQuiet_nil ?_) | (refine wpQuiet_step (fun K hK => ?_); go_simp; split <;> (refine hK _ ?_; clear hK K; refine wpQuiet_nil ?_))) | (refine wpSeqL_link rfl (fun K hK => ?_); go_simp; first | first | (refine hK _ _ (by show World.grows _ _; repeat (first | assumption | exact grA | apply grB | apply grC | apply grD)) ?_; clear hK K) | (((first | (go_at_call 44; (with_reducible refine (M1.out _ _ ?_).mono ?_); (simp [go_sem, hx0, hx1, z0, z1]); rintro e w1 ⟨rfl, x1, rfl⟩))); refine ⟨_, rfl, hK _ _ (by show World.grows _ _; repeat (first | assumption | exact grA | apply grB | apply grC | apply grD)) ?_⟩; clear hK K) | (split <;> (first | (refine hK _ _ (by show World.grows _ _; repeat (first | assumption | exact grA | apply grB | apply grC | apply grD)) ?_; clear hK K) | (((first | (go_at_call 44; (with_reducible refine (M1.out _ _ ?_).mono ?_); (simp [go_sem, hx0, hx1, z0, z1]); rintro e w1 ⟨rfl, x1, rfl⟩))); refine ⟨_, rfl, hK _ _ (by show World.grows _ _; repeat (first | assumption | exact grA | apply grB | apply grC | apply grD)) ?_⟩; clear hK K))))))
      all_goals (refine wpSeqL_end ?_)
      go_wp2_with fail
      go_roundg (7 - (i + 1))
      case rel => exact ⟨i + 1, Lib.hid (by omega), by omega, by go_num, (by repeat (with_reducible first | assumption | exact grA | apply grB | apply grC | apply grD | refine grE ?_ (by omega) _ | refine grF ?_ (by omega) _ _)), by simp [go_sem, hx0, hx1, hx2, hx3, z0, z1, z2, z3, ne1, ne2, ne3, ne4, ne5, ne6], by simp [go_sem, hx0, hx1, hx2, hx3, z0, z1, z2, z3, ne1, ne2, ne3, ne4, ne5, ne6], by simp [go_sem, hx0, hx1, hx2, hx3, z0, z1, z2, z3, ne1, ne2, ne3, ne4, ne5, ne6], by simp [go_sem, hx0, hx1, hx2, hx3, z0, z1, z2, z3, HT.out, ne1, ne2, ne3, ne4, ne5, ne6]⟩
      case measure => have := HK.out; omega
    · obtain rfl : i = 7 := by omega
      have eU := scU_all (k1, k2) hu7
      have hU7 : (scU (k1, k2) us 7).length = 7 := scU_len _ _ _
      generalize scU (k1, k2) us 7 = U at *
      have EU := Lib.hid eU
      clear eU HK hi hi7
      have hB4 : o + 1 ≤ wr.heap.size := z3.1
      go_wp2_with fail
      go_loopg [7, 35] ps.length (fun gn v7 v35 wj => ∃ k : Nat, Hid (gn + k = ps.length) ∧ k ≤ ps.length ∧ v35 = .int .i64 k ∧ o + 1 ≤ wj.heap.size ∧ w.grows wj ∧ wj.row (w.heap.size + 1) = some (.cells #[.int .i64 k1, .int .i64 k2] 23) ∧
        wj.row (w.heap.size + 1 + 1) = some (.cells (formC (zs 0) (.slice none 0 0)).toArray 30) ∧ Hid (OwnAt wj (o + 1) 30 15 (FormOk wj (exS S1 v7)) v7 (plainS (k1, k2) us :: (ps.take k).map (scaleQ (k1, k2)))))
      case atStart =>
        refine ⟨0, rfl, Nat.zero_le _, rfl, (by simp; omega), (by repeat (with_reducible first | assumption | exact grA | apply grB | apply grC | apply grD | refine grE ?_ (by omega) _ | refine grF ?_ (by omega) _ _)), by simp [go_sem, hx1, z1], by simp [go_sem, hx2, z2], Lib.hid ?_⟩
        refine own_one (cs := formC U (.slice none 0 0)) (by simp [go_sem]; done) hB4 (formC_len _ hU7) ?_
        have := FormOk_form (w := wr.alloc (.cells (formC U (.slice none 0 0)).toArray 30)) (S := exS S1 (.slice (some ⟨wr.heap.size, 0, none⟩) 1 1)) (us := U) (ps := []) (v := .slice none 0 0) hU7 (EU.out ▸ plainS_bd HUB.out ⟨WK.out.1, WK.out.2⟩) (SlAt_nil _ _ _ _)
        rw [EU.out] at this
        rw [EU.out]; exact this
      case round =>
        clear hx0 hx1 hx2 hx3 z0 z1 z2 z3 hg hB4
        obtain ⟨k, HK, hk, rfl, hoz, hg, hx1, hx2, HW⟩ := hrel
        have z1 := row_sz' hx1; have z2 := row_sz' hx2
        by_cases hlt : k < ps.length
        · obtain ⟨a0', cap0, e0, hl0, hc0, hE0⟩ := HP.out
          injection e0 with e1 e2 e3
          subst e1; subst e3
          rcases hE0 with h | ⟨g, off, rfl, hSg, hcell⟩
          · rw [h] at hlt; cases hlt
          obtain ⟨cs', hl2, hel, v', rfl, hsl⟩ := hcell k ps[k] (by simp [hlt])
          have htk : (ps.take (k + 1)).map (scaleQ (k1, k2)) = (ps.take k).map (scaleQ (k1, k2)) ++ [scaleQ (k1, k2) ps[k]] := by
            rw [List.take_succ_eq_append_getElem hlt, List.map_append]; rfl
          have hszp : szQ ps[k] ≤ 4194303 := by
            have h1 := szP_mem (List.getElem_mem hlt)
            have h2 := HSZ.out
            rw [szF] at h2; omega
          have he := hel.grows hg
          unfold eltAt at he
          have zr := lt_sz (hel.grows hg).lt
          generalize ps[k] = p at *
          obtain ⟨b, args⟩ := p
          obtain ⟨a1, c1, rfl, hn1, hn2⟩ := hsl.len
          have e3 : segOk (off + k * 2) 2 (wr.row g) = true := he.1
          have e4 : segV (off + k * 2) 2 (wr.row g) = .agg #[.bool b, .slice a1 args.length c1] := he.2
          rw [szQ_eq] at hszp
          have hal : args.length ≤ 4194303 := by have := szM_len args; omega
          have HSL := Lib.hid hsl; have HTK := Lib.hid htk; have HZP := Lib.hid hszp
          clear hcell hel he hsl htk hszp hl2
          have hB8 : ∀ g, u7.ownBlock = some g → o + 1 ≤ g ∧ g < wr.heap.size := fun g hg0 => HW.out.lt hg0
          have HB8 := Lib.hid hB8; clear hB8
          have hbb : w.heap.size + 1 + 1 + 1 ≤ wr.heap.size := z2.1
          have hob : o + 1 ≤ wr.heap.size := hoz
          clear hoz
          generalize hbe : wr.heap.size = bb at *
          go_wp2_with fail
          go_loopg [10, 42] args.length (fun gn v10 v42 wj => ∃ j : Nat, Hid (gn + j = args.length) ∧ j ≤ args.length ∧ v42 = .int .i64 j ∧ w.grows wj ∧ wj.row (w.heap.size + 1) = some (.cells #[.int .i64 k1, .int .i64 k2] 23) ∧
            wj.row (w.heap.size + 1 + 1) = some (.cells (formC (zs 0) (.slice none 0 0)).toArray 30) ∧ wj.row bb = some (.cells #[.bool b, .slice a1 args.length c1] 76) ∧
            Hid (OwnAt wj (o + 1) 30 15 (FormOk wj (fun g => exS S1 u7 g ∧ g < bb + 1)) u7 (plainS (k1, k2) us :: (ps.take k).map (scaleQ (k1, k2)))) ∧
            Hid (OwnAt wj (bb + 1) 30 15 (FormOk wj (exS (exS S1 u7) v10)) v10 ((args.take j).map (scaleF (k1, k2)))))
          case atStart => exact ⟨0, rfl, Nat.zero_le _, rfl, (by repeat (with_reducible first | assumption | exact grA | apply grB | apply grC | apply grD | refine grE ?_ (by omega) _ | refine grF ?_ (by omega) _ _)), by simp [go_sem, hx1, hx2, z1, z2, hbe], by simp [go_sem, hx1, hx2, z1, z2, hbe], by simp [go_sem, hx1, hx2, z1, z2, hbe], Lib.hid (HW.out.forms_mono (World.grows.trans (by repeat (with_reducible first | assumption | exact grA | apply grB | apply grC | apply grD | refine grE ?_ (by omega) _ | refine grF ?_ (by omega) _ _)) World.grows.refl) (fun g hg0 hl0 => ⟨hg0, by omega⟩)), OwnAt_nil _ _ _ _ _⟩
          case round =>
            obtain ⟨j, HK2, hj, rfl, hg2, hy1, hy2, hy3, HW8, HW11⟩ := hrel
            clear hx1 hx2 z1 z2 zr e3 e4 HW hbe
            have y1 := row_sz' hy1; have y2 := row_sz' hy2; have y3 := row_sz' hy3
            by_cases hlt2 : j < args.length
            · obtain ⟨a1', cap1, e0, hl1, hc1, hE1⟩ := HSL.out
              injection e0 with e1 e2 e3
              subst e1; subst e3
              rcases hE1 with h | ⟨g2, off2, rfl, hSg2, hcell2⟩
              · rw [h] at hlt2; cases hlt2
              obtain ⟨cs3, hl15, hel2, hfa⟩ := hcell2 j args[j] (by simp [hlt2])
              have htj : (args.take (j + 1)).map (scaleF (k1, k2)) = (args.take j).map (scaleF (k1, k2)) ++ [scaleF (k1, k2) args[j]] := by
                rw [List.take_succ_eq_append_getElem hlt2, List.map_append]; rfl
              have hszf : szF args[j] ≤ 4194304 := by
                have h1 := szM_mem (List.getElem_mem hlt2)
                have h2 := HZP.out
                omega
              have he2 := hel2.grows hg2
              unfold eltAt at he2
              rw [hl15] at he2
              have zr2 := lt_sz (hel2.grows hg2).lt
              have e5 : segOk (off2 + j * 15) 15 (wr.row g2) = true := he2.1
              have e6 : segV (off2 + j * 15) 15 (wr.row g2) = .agg cs3.toArray := he2.2
              obtain ⟨css11, p1, p2, p3⟩ := HW11.out
              rw [List.length_map, List.length_take, Nat.min_eq_left (Nat.le_of_lt hlt2)] at p3
              have c1 : ∀ W, wr.grows W → Calls Try.prog 29 #[.agg cs3.toArray, .agg #[.int .i64 k1, .int .i64 k2]] W (FormP W (exS (exS S1 u7) u10) (scaleF (k1, k2) args[j])) := fun W hW => by
                have hs1 := hW.below.size
                have hs2 := hg2.below.size
                refine IH.out _ _ W _ (fun g hg0 => ⟨⟨HSN.out g (by have := y2.1; omega), fun e => ?_⟩, fun e => ?_⟩) (FormAt.keep (fun g hSg0 hlt0 => ⟨(hg2.trans hW).row_eq hlt0, ⟨HSO.out g hSg0 hlt0, fun e => ?_⟩, fun e => ?_⟩) m _ _ hfa) hszf
                · have := (HB8.out g e).2; have := y3.1; omega
                · have := (HW11.out.lt e).2; omega
                · have := (HB8.out g e).1; omega
                · have := (HW11.out.lt e).1; omega
              generalize args[j] = f at *
              obtain ⟨us3, ps3⟩ := f
              obtain ⟨hu37, _, v3, rfl, hs3⟩ := FormOk_us (⟨m, hfa⟩ : FormOk w S _ _)
              obtain ⟨a3, c3, rfl, hn31, hn32⟩ := hs3.len
              generalize scaleF (k1, k2) (.mk us3 ps3) = F at *
              have C1 := Lib.hid c1; have P1 := Lib.hid p1; have P2 := Lib.hid p2; have P3 := Lib.hid p3; have HTJ := Lib.hid htj
              clear c1 p1 p2 p3 hfa hs3 hel2 he2 hcell2 hl15 hszf htj
              go_wp2_with (first | (go_at_call 29; (with_reducible refine (C1.out _ (by repeat (with_reducible first | assumption | exact grA | apply grB | apply grC | apply grD | refine grE ?_ (by omega) _ | refine grF ?_ (by omega) _ _))).mono ?_); rintro e w1 ⟨a5, c5, rfl, hg5, h57, h5b, h5s⟩; have hrw1 : wr.grows w1 := World.grows.trans (by repeat (with_reducible first | assumption | exact grA | apply grB | apply grC | apply grD | refine grE ?_ (by omega) _ | refine grF ?_ (by omega) _ _)) hg5; have hgw1 : w.grows w1 := World.grows.trans hg2 hrw1; have q1 := (hrw1.row_eq y1.1).trans hy1; have q2 := (hrw1.row_eq y2.1).trans hy2; have q3 := (hrw1.row_eq y3.1).trans hy3; have t1 := row_sz' q1; have t2 := row_sz' q2; have t3 := row_sz' q3; have H5B := Lib.hid h5b; have H5S := Lib.hid h5s; clear h5b h5s hg5) | (at_builtin; refine wpList_app w (bb + 1) rfl (.tmp 46) (.tmp 50) _ rfl 30 (.agg #[.int .i64 0, .int .i64 0, .int .i64 0, .int .i64 0, .int .i64 0, .int .i64 0, .int .i64 0, .int .i64 0, .int .i64 0, .int .i64 0, .int .i64 0, .int .i64 0, .int .i64 0, .int .i64 0, .slice none 0 0]) 15 136 Try.underlying49 (by kernel_rfl) rfl (by omega) (by omega) _ j _ rfl (P3.out.grows (by repeat (with_reducible first | assumption | exact grA | apply grB | apply grC | apply grD | refine grE ?_ (by omega) _ | refine grF ?_ (by omega) _ _))) _ 1 _ (formC F.us (.slice a5 F.ps.length c5)) rfl (formC_len _ h57) (cells_of_row (e := 30) (fr := (0, 0)) (by simp [go_sem])) (fun u hu => List.all_eq_true.1 (formC_one rfl) u hu) (by omega) (by repeat (with_reducible first | assumption | exact grA | apply grB | apply grC | apply grD | refine grE ?_ (by omega) _ | refine grF ?_ (by omega) _ _)) (by omega) (by simp; omega) ?_; intro v' w' hg' HO' HR' HG' HA'))
              go_wp2_with fail
              go_roundg (args.length - (j + 1))
              case rel =>
                have hp1 : css11.length = ((args.take j).map (scaleF (k1, k2))).length := P1.out
                refine ⟨j + 1, Lib.hid (by omega), by omega, by go_num, hg', (HR'.out _ (by omega)).trans (by simp [go_sem, q1, t1]), (HR'.out _ (by omega)).trans (by simp [go_sem, q2, t2]), (HR'.out _ (by omega)).trans (by simp [go_sem, q3, t3]),
                  Lib.hid (own_forms_keep (HW8.out.forms_mono (hrw1.trans (World.grows.alloc World.grows.refl _)) (fun _ h _ => h)) (fun g h _ => HR'.out g h) (fun g h => h.2) (fun g h => by have := (HB8.out g h).2; omega)), Lib.hid ?_⟩
                rw [HTJ.out]
                refine forms_append P1.out (fun i x cs hx hc => ⟨(P2.out i x cs hx hc).1, (P2.out i x cs hx hc).2.grows (hrw1.trans (World.grows.alloc World.grows.refl _))⟩) ((FormOk_of_parts h57 H5B.out H5S.out).grows (World.grows.alloc World.grows.refl _)) ?_ HG'.out HA'.out
                have := HO'.out
                rw [List.length_map, List.length_take, Nat.min_eq_left (Nat.le_of_lt hlt2)]
                exact this
              case measure => have := HK2.out; omega
            · obtain rfl : j = args.length := by omega
              have h11 := HW11.out
              rw [List.take_length] at h11
              have hal2 : (args.map (scaleF (k1, k2))).length ≤ 4194304 := by rw [List.length_map]; omega
              have c1 : ∀ W, wr.grows W → Calls Try.prog 37 #[.bool (b == decide (0 ≤ k1)), u10] W (FormP W (exS S1 u7) (pickF (b == decide (0 ≤ k1)) (args.map (scaleF (k1, k2))))) := fun W hW => by
                have hs1 := hW.below.size
                refine refPick_any _ _ _ W _ (fun g hg0 => ⟨HSN.out g (by have := y2.1; omega), fun e => ?_⟩) ((h11.forms_mono hW (T' := exS S1 u7) (fun g h _ => h.1)).slAt (by omega) (fun g hg0 => ⟨HSN.out g (by have := (h11.lt hg0).1; omega), fun e => ?_⟩)) hal2
                · have := (HB8.out g e).2; have := y3.1; omega
                · have := (HB8.out g e).2; have := (h11.lt hg0).1; omega
              have esq : scaleQ (k1, k2) (b, args) = pickF (b == decide (0 ≤ k1)) (args.map (scaleF (k1, k2))) := by rw [scaleQ, scaleL_map]
              rw [← esq] at c1
              have hlist : (plainS (k1, k2) us :: (ps.take (k + 1)).map (scaleQ (k1, k2))) = (plainS (k1, k2) us :: (ps.take k).map (scaleQ (k1, k2))) ++ [scaleQ (k1, k2) (b, args)] := by rw [HTK.out]; rfl
              generalize scaleQ (k1, k2) (b, args) = F at *
              obtain ⟨css8, p1, p2, p3⟩ := HW8.out
              have hl8 : (plainS (k1, k2) us :: (ps.take k).map (scaleQ (k1, k2))).length = k + 1 := by
                rw [List.length_cons, List.length_map, List.length_take, Nat.min_eq_left (Nat.le_of_lt hlt)]
              rw [hl8] at p3
              have C1 := Lib.hid c1; have P1 := Lib.hid p1; have P2 := Lib.hid p2; have P3 := Lib.hid p3; have HL := Lib.hid hlist; have HL8 := Lib.hid hl8
              clear c1 p1 p2 p3 hlist hl8 h11 hal2 esq
              go_wp2_with (first | (go_at_call 37; (with_reducible refine (C1.out _ (by repeat (with_reducible first | assumption | exact grA | apply grB | apply grC | apply grD | refine grE ?_ (by omega) _ | refine grF ?_ (by omega) _ _))).mono ?_); rintro e w1 ⟨a5, c5, rfl, hg5, h57, h5b, h5s⟩; have hrw1 : wr.grows w1 := World.grows.trans (by repeat (with_reducible first | assumption | exact grA | apply grB | apply grC | apply grD | refine grE ?_ (by omega) _ | refine grF ?_ (by omega) _ _)) hg5; have hs9 := hrw1.below.size; have hgw1 : w.grows w1 := World.grows.trans hg2 hrw1; have q1 := (hrw1.row_eq y1.1).trans hy1; have q2 := (hrw1.row_eq y2.1).trans hy2; have t1 := row_sz' q1; have t2 := row_sz' q2; have H5B := Lib.hid h5b; have H5S := Lib.hid h5s; clear h5b h5s hg5) | (at_builtin; refine wpList_app w (o + 1) rfl (.tmp 53) (.tmp 62) _ rfl 30 (.agg #[.int .i64 0, .int .i64 0, .int .i64 0, .int .i64 0, .int .i64 0, .int .i64 0, .int .i64 0, .int .i64 0, .int .i64 0, .int .i64 0, .int .i64 0, .int .i64 0, .int .i64 0, .int .i64 0, .slice none 0 0]) 15 136 Try.underlying49 (by kernel_rfl) rfl (by omega) (by omega) _ (k + 1) _ rfl (P3.out.grows (by repeat (with_reducible first | assumption | exact grA | apply grB | apply grC | apply grD | refine grE ?_ (by omega) _ | refine grF ?_ (by omega) _ _))) _ 1 _ (formC F.us (.slice a5 F.ps.length c5)) rfl (formC_len _ h57) (cells_of_row (e := 30) (fr := (0, 0)) (by simp [go_sem])) (fun u hu => List.all_eq_true.1 (formC_one rfl) u hu) (by omega) (by repeat (with_reducible first | assumption | exact grA | apply grB | apply grC | apply grD | refine grE ?_ (by omega) _ | refine grF ?_ (by omega) _ _)) (by omega) (by simp; omega) ?_; intro v' w' hg' HO' HR' HG' HA'))
              go_wp2_with fail
              go_roundg (ps.length - (k + 1))
              case rel =>
                refine ⟨k + 1, Lib.hid (by omega), by omega, by go_num, (by have h1 := HG'.out.size; have h2 := hrw1.below.size; have h3 := y3.1; simp at h1; omega), hg', (HR'.out _ (by omega)).trans (by simp [go_sem, q1, t1]), (HR'.out _ (by omega)).trans (by simp [go_sem, q2, t2]), Lib.hid ?_⟩
                rw [HL.out]
                refine forms_append P1.out (fun i x cs hx hc => ⟨(P2.out i x cs hx hc).1, (P2.out i x cs hx hc).2.keep (fun g h hlt => ⟨(hrw1.trans (World.grows.alloc World.grows.refl _)).row_eq hlt, h.1⟩)⟩) ((FormOk_of_parts h57 H5B.out H5S.out).grows (World.grows.alloc World.grows.refl _)) ?_ HG'.out HA'.out
                rw [HL8.out]
                exact HO'.out
              case measure => have := HK.out; omega
        · obtain rfl : k = ps.length := by omega
          have hW := HW.out
          rw [List.take_length, ← scaleP_q] at hW
          have hfl := flat_scale_len (k1, k2) us ps
          have hsz := HSZ.out
          rw [szF] at hsz
          have hll : (plainS (k1, k2) us :: scaleP (k1, k2) ps).length ≤ 4194304 := by
            have := szP_len ps
            rw [List.length_cons, scaleP_q, List.length_map]; omega
          have c1 : ∀ W, wr.grows W → Calls Try.prog 35 #[u7] W (FormP W S1 (scaleF (k1, k2) (.mk us ps))) := fun W hWg => by
            have hs1 := hWg.below.size
            rw [scaleF]
            exact refAddF_any _ _ W _ (fun g hg0 => HSN.out g (by have := z2.1; omega)) ((hW.forms_mono hWg (T' := S1) (fun g h _ => h.1)).slAt (by omega) (fun g hg0 => HSN.out g (by have := (hW.lt hg0).1; omega))) (fun f hf => scaleList_may (k1, k2) us ps f hf) hll (by omega)
          generalize scaleF (k1, k2) (.mk us ps) = F at *
          have C1 := Lib.hid c1
          clear c1 hW hfl hsz hll HW
          go_wp2_with (first | (go_at_call 35; (with_reducible refine (C1.out _ (by repeat (with_reducible first | assumption | exact grA | apply grB | apply grC | apply grD | refine grE ?_ (by omega) _ | refine grF ?_ (by omega) _ _))).mono ?_); rintro e w1 ⟨a5, c5, rfl, hg5, h57, h5b, h5s⟩; have hrw1 : wr.grows w1 := World.grows.trans (by repeat (with_reducible first | assumption | exact grA | apply grB | apply grC | apply grD | refine grE ?_ (by omega) _ | refine grF ?_ (by omega) _ _)) hg5; have hgw1 : w.grows w1 := World.grows.trans hg hrw1; have q2 := (hrw1.row_eq z2.1).trans hx2; have t2 := row_sz' q2; have H5B := Lib.hid h5b; have H5S := Lib.hid h5s; clear h5b h5s hg5))
          (with_reducible show bodyPost _ _ _ _ _ _); exact ret_30 rfl rfl (by simp [go_sem, q2, t2, h57]) rfl ⟨a5, c5, (by simp [go_sem, q2, t2, h57]), (by repeat (with_reducible first | assumption | exact grA | apply grB | apply grC | apply grD | refine grE ?_ (by omega) _ | refine grF ?_ (by omega) _ _)), h57, H5B.out, H5S.out.keep (fun g h _ => ⟨by rw [World.row_setRow, if_neg (HSD.out g h).2], (HSD.out g h).1⟩) (fun x _ cs ⟨v', e, h⟩ => ⟨v', e, h.keep (fun g h _ => ⟨by rw [World.row_setRow, if_neg (HSD.out g h).2], (HSD.out g h).1⟩) (fun f _ cs hf => hf.keep (fun g h _ => ⟨by rw [World.row_setRow, if_neg (HSD.out g h).2], (HSD.out g h).1⟩))⟩)⟩

theorem rscale_all : ∀ m, RScaleIH m
  | 0 => fun _ _ _ _ _ _ _ h _ _ _ => h.elim
  | m + 1 => by
    intro f cs k1 k2 w S hS h wk1 wk2 hsz
    obtain ⟨us, ps⟩ := f
    obtain ⟨h1, h2, v, rfl, h4⟩ := h
    obtain ⟨a, c, rfl, _⟩ := h4.len
    generalize hK : cleanQ (k1, k2) = K
    obtain ⟨K1, K2⟩ := K
    exact rscale_step m (rscale_all m) us ps a c k1 k2 K1 K2 w S hS h1 h2 h4 wk1 wk2 hK hsz
theorem refScale_any (f : Fm) (cs : List Value) (k1 k2 : Int) (w : World) (S : Nat → Prop) (hS : ∀ g, w.heap.size ≤ g → S g) (h : FormOk w S f cs) (wk1 : I64 k1) (wk2 : I64 k2) (hsz : szF f ≤ 4194304) :
    Calls Try.prog 29 #[.agg cs.toArray, .agg #[.int .i64 k1, .int .i64 k2]] w (FormP w S (scaleF (cleanQ (k1, k2)) f)) := by
  obtain ⟨m, h⟩ := h
  exact rscale_all m f cs k1 k2 w S hS h wk1 wk2 hsz
end Go.Proofs.Ythmicnjigfcljaa

/- WALK: a form in px. No condition but that the form stands in memory and has not too many parts. (printed by wip/mkpx.py) -/
import Derived.Test.YthmicnjigfcljaaFmC
import Derived.Test.YthmicnjigfcljaaMo
import Derived.Test.YthmicnjigfcljaaSize
import Derived.Test.YthmicnjigfcljaaMa
import Derived.Test.YthmicnjigfcljaaMn
set_option linter.unusedSimpArgs false
set_option linter.unusedVariables false
namespace Go
open Go.RowKit
theorem own_lt {w : World} {B : Nat} {e : TypeId} {n : Nat} {k : Nat} {v : Value} {xs : List Value} (h : w.ownsRow B e n v k xs) {g : Nat} (hg : v.ownBlock = some g) : B ≤ g ∧ g < w.heap.size := by
  rcases h.2 with ⟨rfl, _⟩ | ⟨g', cap, cur, rfl, hb, hh, _⟩
  · cases hg
  · obtain rfl : g' = g := by simpa [Value.ownBlock] using hg
    exact ⟨hb, (Array.getElem?_eq_some_iff.1 hh).1⟩
theorem own_block_kept {w W : World} {B : Nat} {e : TypeId} {n : Nat} {k : Nat} {v : Value} {xs : List Value} (h : w.ownsRow B e n v k xs) (hk : ∀ g, v.ownBlock = some g → W.row g = w.row g) : W.ownsRow B e n v k xs := by
  refine ⟨h.1, ?_⟩
  rcases h.2 with hn | ⟨g, cap, cur, rfl, hb, hgg, rest⟩
  · exact .inl hn
  · exact .inr ⟨g, cap, cur, rfl, hb, (hk g rfl).trans hgg, rest⟩
end Go
namespace Go.Proofs.Ythmicnjigfcljaa
open Go.RowKit

def pxIH (c : Cx) (m : Nat) : Prop := ∀ (f : Fm) (cs : List Value) (w : World) (S : Nat → Prop), FormAt w S m f cs → szF f ≤ 4194304 →
    Calls Try.prog 71 #[.agg cs.toArray, .agg (cxL c).toArray] w (Gives w (ratV (pxF (sizeQ c) f)))

set_option maxRecDepth 100000 in
set_option maxHeartbeats 8000000 in
theorem px_step (c : Cx) (hcb : c.bd) (m : Nat) (IH0 : pxIH c m) (us : List (Int × Int)) (ps : List (Bool × List Fm)) (a0 : Option Addr) (c0 : Nat) (w : World) (S : Nat → Prop) (hu7 : us.length = 7) (hub : ∀ p ∈ us, I64p p)
    (hps : SlAt w S 2 (PartR (FormAt w S m) w S) (.slice a0 ps.length c0) ps) (hsz : szF (.mk us ps) ≤ 4194304) :
    Calls Try.prog 71 #[.agg (formC us (.slice a0 ps.length c0)).toArray, .agg (cxL c).toArray] w (Gives w (ratV (pxF (sizeQ c) (.mk us ps)))) := by
  have hpsl : ps.length ≤ 4194304 := by have := ps_len (.mk us ps); show ps.length ≤ _; have e : (Fm.mk us ps).ps = ps := rfl; rw [e] at this; omega
  have s1 := fun (u : Int) (wu : I64 u) W => unitSize_any c u W hcb wu
  have hZ := sizeQ_bd hcb
  have hPB : ∀ p ∈ ps, I64p (pxPart (sizeQ c) p) := fun p hp => by
    obtain ⟨cs, h⟩ := hps.mem hp
    exact pxPart_bd hZ h
  have hFB : ∀ p ∈ ps, ∀ f ∈ p.2, I64p (pxF (sizeQ c) f) := fun p hp f hf => by
    obtain ⟨cs, v', _, h⟩ := hps.mem hp
    obtain ⟨cs2, h2⟩ := h.mem hf
    exact pxF_bd hZ m f cs2 h2
  have hUB := fun n => usPxN_bd (n := n) hZ hub
  have IH := IH0
  unfold pxIH at IH
  clear IH0
  rw [pxF_eq, ← usPxN_all]
  generalize sizeQ c = sz at *
  obtain ⟨⟨f1, f2⟩, ⟨r1, r2⟩, ⟨v1, v2⟩, ⟨h1, h2⟩, ⟨cc1, cc2⟩, ⟨d1, d2⟩⟩ := c
  change Calls Try.prog 71 #[_, .agg #[.int .i64 f1, .int .i64 f2, .int .i64 r1, .int .i64 r2, .int .i64 v1, .int .i64 v2, .int .i64 h1, .int .i64 h2, .int .i64 cc1, .int .i64 cc2, .int .i64 d1, .int .i64 d2]] w _
  change ∀ u : Int, I64 u → ∀ W, Calls Try.prog 45 #[_, .agg #[.int .i64 f1, .int .i64 f2, .int .i64 r1, .int .i64 r2, .int .i64 v1, .int .i64 v2, .int .i64 h1, .int .i64 h2, .int .i64 cc1, .int .i64 cc2, .int .i64 d1, .int .i64 d2]] W _ at s1
  change ∀ (f : Fm) (cs : List Value) (w : World) (S : Nat → Prop), FormAt w S m f cs → szF f ≤ 4194304 → Calls Try.prog 71 #[_, .agg #[.int .i64 f1, .int .i64 f2, .int .i64 r1, .int .i64 r2, .int .i64 v1, .int .i64 v2, .int .i64 h1, .int .i64 h2, .int .i64 cc1, .int .i64 cc2, .int .i64 d1, .int .i64 d2]] w _ at IH
  clear hcb
  have IH := Lib.hid IH; have HP := Lib.hid hps; have HUB := Lib.hid hub; have HSZ := Lib.hid hsz; have SZ := Lib.hid s1; have HZ := Lib.hid hZ; have HPB := Lib.hid hPB; have HFB := Lib.hid hFB; have HUN := Lib.hid hUB
  clear hps hub hsz s1 hZ hPB hFB hUB
  go_enter Try.func71, Try.ntmps71
  go_wp2_with fail
  go_loopg [5, 15] 7 (fun gn v5 v15 wj => ∃ i n : Nat, Hid (gn + i = 7) ∧ i ≤ 7 ∧ v15 = .int .i64 i ∧ Hid (n = (usPxN sz us i).length) ∧ Hid (wj.ownsRow (w.heap.size + 1 + 1 + 1) 23 2 v5 n ((usPxN sz us i).flatMap ratL)) ∧ w.grows wj ∧ wj.row w.heap.size = some (.cells (formC us (.slice a0 ps.length c0)).toArray 30) ∧ wj.row (w.heap.size + 1) = some (.cells #[.int .i64 f1, .int .i64 f2, .int .i64 r1, .int .i64 r2, .int .i64 v1, .int .i64 v2, .int .i64 h1, .int .i64 h2, .int .i64 cc1, .int .i64 cc2, .int .i64 d1, .int .i64 d2] 58) ∧ wj.row (w.heap.size + 1 + 1) = some (.cells #[.int .i64 0, .int .i64 0] 23))
  case atStart => exact ⟨0, 0, rfl, by omega, rfl, rfl, World.ownsRow_nil _ _ _ _, (by repeat (with_reducible first | assumption | exact grA | apply grB | apply grC | apply grD | refine grE ?_ (by omega) _ | refine grF ?_ (by omega) _ _)), by simp [go_sem], by simp [go_sem], by simp [go_sem]⟩
  case round =>
    obtain ⟨i, n, HK, hi, rfl, HN, HO, hg, hx0, hx1, hx2⟩ := hrel
    have z0 := row_sz' hx0; have z1 := row_sz' hx1; have z2 := row_sz' hx2
    have y0 := z0.1; have y1 := z1.1; have y2 := z2.1
    by_cases hi7 : i < 7
    · have hb := uGet_bd HUB.out i
      have hn7 : n ≤ 7 := by have := HN.out; have := usPxN_len sz us i; omega
      by_cases hz : uGet us i = (0, 1)
      · have hq1 : (uGet us i).1 = 0 := by rw [hz]
        have hq2 : (uGet us i).2 = 1 := by rw [hz]
        have en := usPxN_no (sz := sz) hz
        have EN := Lib.hid en
        clear en hz hb
        go_wp2_with fail
        skip
        go_wp2_with fail
        go_roundg (7 - (i + 1))
        case rel => exact ⟨i + 1, n, Lib.hid (by omega), by omega, by go_num, Lib.hid (EN.out ▸ HN.out), (by rw [EN.out]; exact HO.grows (by repeat (with_reducible first | assumption | exact grA | apply grB | apply grC | apply grD | refine grE ?_ (by omega) _ | refine grF ?_ (by omega) _ _))), (by repeat (with_reducible first | assumption | exact grA | apply grB | apply grC | apply grD | refine grE ?_ (by omega) _ | refine grF ?_ (by omega) _ _)), by simp [go_sem, hx0, z0], by simp [go_sem, hx1, z1], by simp [go_sem, hx2, z2]⟩
        case measure => have := HK.out; omega
      · have en := usPxN_yes (sz := sz) hz
        have hi1 : I64 ((i : Int) + 1) := by constructor <;> omega
        have c1 := fun W => SZ.out ((i : Int) + 1) hi1 W
        have hsb := HZ.out ((i : Int) + 1)
        generalize sz ((i : Int) + 1) = s at *
        have m1 : ∀ W G, W.row G = some (.cells #[.int .i64 (uGet us i).1, .int .i64 (uGet us i).2, .int .i64 s.1, .int .i64 s.2] 23) → Calls Try.prog 77 #[.slice (some ⟨G, 0, none⟩) 2 2] W (Gives W (ratV (foldQ (1, 1) mulQ [uGet us i, s]))) :=
          fun W G h => ratMul_any _ _ W (rats2 h hb hsb)
        generalize foldQ (1, 1) mulQ [uGet us i, s] = R at *
        obtain ⟨R1, R2⟩ := R
        obtain ⟨s1, s2⟩ := s
        have hne : ((uGet us i).1 == 0) = false ∨ (((uGet us i).1 == 0) = true ∧ ((uGet us i).2 == 1) = false) := by
          generalize uGet us i = q at hz
          obtain ⟨q1, q2⟩ := q
          by_cases h1 : q1 = 0
          · subst h1
            refine .inr ⟨rfl, ?_⟩
            rw [beq_eq_false_iff_ne]; intro h; exact hz (by rw [show q2 = 1 from h])
          · exact .inl (by rw [beq_eq_false_iff_ne]; exact h1)
        have hl : (usPxN sz us (i + 1)).length = n + 1 := by rw [en, List.length_append, ← HN.out]; rfl
        have hnx : (usPxN sz us (i + 1)).flatMap ratL = (usPxN sz us i).flatMap ratL ++ [.int .i64 R1, .int .i64 R2] := by rw [en, List.flatMap_append]; rfl
        have EN := Lib.hid hnx; have EL := Lib.hid hl
        dsimp only at m1 c1
        have C1 := Lib.hid c1; have M1 := Lib.hid m1
        clear en hz hb c1 m1 hsb hi1 hl hnx
        rcases hne with hb1 | ⟨hb1, hb2⟩
        · go_wp2_with fail
          skip
          go_wp2_with fail
          refine wp_region_plus_seq_tail 9 (by kernel_rfl) (by kernel_rfl) (fun x0 => ?_)
          simp only [List.take_succ_cons, List.take_zero, List.drop_succ_cons, List.drop_zero]
          repeat (any_goals (first | (refine wpSeqL_free rfl ?_; first | (go_big_quiet_skip; refine wpQuiet_nil ?_) | (go_big_quiet_step (fail); refine wpQuiet_nil ?_) | (refine wpQuiet_step (fun K hK => ?_); go_simp; split <;> (refine hK _ ?_; clear hK K; refine wpQuiet_nil ?_))) | (refine wpSeqL_link rfl (fun K hK => ?_); go_simp; first | first | (refine hK _ _ (by show World.grows _ _; repeat (first | assumption | exact grA | apply grB | apply grC | apply grD)) ?_; clear hK K) | (((first | (go_at_call 45; (with_reducible refine (C1.out _).mono ?_); rintro e w1 ⟨rfl, x1, rfl⟩) | (go_at_call 77; (with_reducible refine (M1.out _ _ ?_).mono ?_); (simp [go_sem, hx1, z1]); rintro e w1 ⟨rfl, x2, rfl⟩))); refine ⟨_, rfl, hK _ _ (by show World.grows _ _; repeat (first | assumption | exact grA | apply grB | apply grC | apply grD)) ?_⟩; clear hK K) | (split <;> (first | (refine hK _ _ (by show World.grows _ _; repeat (first | assumption | exact grA | apply grB | apply grC | apply grD)) ?_; clear hK K) | (((first | (go_at_call 45; (with_reducible refine (C1.out _).mono ?_); rintro e w1 ⟨rfl, x1, rfl⟩) | (go_at_call 77; (with_reducible refine (M1.out _ _ ?_).mono ?_); (simp [go_sem, hx1, z1]); rintro e w1 ⟨rfl, x2, rfl⟩))); refine ⟨_, rfl, hK _ _ (by show World.grows _ _; repeat (first | assumption | exact grA | apply grB | apply grC | apply grD)) ?_⟩; clear hK K))))))
          all_goals (refine wpSeqL_end ?_)
          go_wp2_with (first | (at_builtin; refine wpList_app w (w.heap.size + 1 + 1 + 1) rfl (.tmp 22) (.tmp 30) _ rfl 23 (.agg #[.int .i64 0, .int .i64 0]) 2 16 Try.underlying85 (by kernel_rfl) rfl (by omega) (by omega) _ n _ rfl (HO.out.grows (by repeat (with_reducible first | assumption | exact grA | apply grB | apply grC | apply grD | refine grE ?_ (by omega) _ | refine grF ?_ (by omega) _ _))) _ 1 _ [.int .i64 R1, .int .i64 R2] rfl rfl (cells_of_row (e := 23) (fr := (0, 0)) (by simp [go_sem])) (by simp [Value.oneCell']) (by omega) (by repeat (with_reducible first | assumption | exact grA | apply grB | apply grC | apply grD | refine grE ?_ (by omega) _ | refine grF ?_ (by omega) _ _)) (by omega) (by simp; omega) ?_; intro v' w' hg' HO' HR' HG' HA'))
          go_wp2_with fail
          go_roundg (7 - (i + 1))
          case rel => exact ⟨i + 1, n + 1, Lib.hid (by omega), by omega, by go_num, (Lib.hid EL.out.symm), (by rw [EN.out]; exact HO'), hg', (HR'.out _ (by omega)).trans ((World.grows.row_eq (w := wr) (by repeat (with_reducible first | assumption | exact grA | apply grB | apply grC | apply grD | refine grE ?_ (by omega) _ | refine grF ?_ (by omega) _ _)) y0).trans hx0), (HR'.out _ (by omega)).trans ((World.grows.row_eq (w := wr) (by repeat (with_reducible first | assumption | exact grA | apply grB | apply grC | apply grD | refine grE ?_ (by omega) _ | refine grF ?_ (by omega) _ _)) y1).trans hx1), (HR'.out _ (by omega)).trans ((World.grows.row_eq (w := wr) (by repeat (with_reducible first | assumption | exact grA | apply grB | apply grC | apply grD | refine grE ?_ (by omega) _ | refine grF ?_ (by omega) _ _)) y2).trans hx2)⟩
          case measure => have := HK.out; omega
        · go_wp2_with fail
          skip
          go_wp2_with fail
          refine wp_region_plus_seq_tail 9 (by kernel_rfl) (by kernel_rfl) (fun x0 => ?_)
          simp only [List.take_succ_cons, List.take_zero, List.drop_succ_cons, List.drop_zero]
          repeat (any_goals (first | (refine wpSeqL_free rfl ?_; first | (go_big_quiet_skip; refine wpQuiet_nil ?_) | (go_big_quiet_step (fail); refine wpQuiet_nil ?_) | (refine wpQuiet_step (fun K hK => ?_); go_simp; split <;> (refine hK _ ?_; clear hK K; refine wpQuiet_nil ?_))) | (refine wpSeqL_link rfl (fun K hK => ?_); go_simp; first | first | (refine hK _ _ (by show World.grows _ _; repeat (first | assumption | exact grA | apply grB | apply grC | apply grD)) ?_; clear hK K) | (((first | (go_at_call 45; (with_reducible refine (C1.out _).mono ?_); rintro e w1 ⟨rfl, x1, rfl⟩) | (go_at_call 77; (with_reducible refine (M1.out _ _ ?_).mono ?_); (simp [go_sem, hx1, z1]); rintro e w1 ⟨rfl, x2, rfl⟩))); refine ⟨_, rfl, hK _ _ (by show World.grows _ _; repeat (first | assumption | exact grA | apply grB | apply grC | apply grD)) ?_⟩; clear hK K) | (split <;> (first | (refine hK _ _ (by show World.grows _ _; repeat (first | assumption | exact grA | apply grB | apply grC | apply grD)) ?_; clear hK K) | (((first | (go_at_call 45; (with_reducible refine (C1.out _).mono ?_); rintro e w1 ⟨rfl, x1, rfl⟩) | (go_at_call 77; (with_reducible refine (M1.out _ _ ?_).mono ?_); (simp [go_sem, hx1, z1]); rintro e w1 ⟨rfl, x2, rfl⟩))); refine ⟨_, rfl, hK _ _ (by show World.grows _ _; repeat (first | assumption | exact grA | apply grB | apply grC | apply grD)) ?_⟩; clear hK K))))))
          all_goals (refine wpSeqL_end ?_)
          go_wp2_with (first | (at_builtin; refine wpList_app w (w.heap.size + 1 + 1 + 1) rfl (.tmp 22) (.tmp 30) _ rfl 23 (.agg #[.int .i64 0, .int .i64 0]) 2 16 Try.underlying85 (by kernel_rfl) rfl (by omega) (by omega) _ n _ rfl (HO.out.grows (by repeat (with_reducible first | assumption | exact grA | apply grB | apply grC | apply grD | refine grE ?_ (by omega) _ | refine grF ?_ (by omega) _ _))) _ 1 _ [.int .i64 R1, .int .i64 R2] rfl rfl (cells_of_row (e := 23) (fr := (0, 0)) (by simp [go_sem])) (by simp [Value.oneCell']) (by omega) (by repeat (with_reducible first | assumption | exact grA | apply grB | apply grC | apply grD | refine grE ?_ (by omega) _ | refine grF ?_ (by omega) _ _)) (by omega) (by simp; omega) ?_; intro v' w' hg' HO' HR' HG' HA'))
          go_wp2_with fail
          go_roundg (7 - (i + 1))
          case rel => exact ⟨i + 1, n + 1, Lib.hid (by omega), by omega, by go_num, (Lib.hid EL.out.symm), (by rw [EN.out]; exact HO'), hg', (HR'.out _ (by omega)).trans ((World.grows.row_eq (w := wr) (by repeat (with_reducible first | assumption | exact grA | apply grB | apply grC | apply grD | refine grE ?_ (by omega) _ | refine grF ?_ (by omega) _ _)) y0).trans hx0), (HR'.out _ (by omega)).trans ((World.grows.row_eq (w := wr) (by repeat (with_reducible first | assumption | exact grA | apply grB | apply grC | apply grD | refine grE ?_ (by omega) _ | refine grF ?_ (by omega) _ _)) y1).trans hx1), (HR'.out _ (by omega)).trans ((World.grows.row_eq (w := wr) (by repeat (with_reducible first | assumption | exact grA | apply grB | apply grC | apply grD | refine grE ?_ (by omega) _ | refine grF ?_ (by omega) _ _)) y2).trans hx2)⟩
          case measure => have := HK.out; omega
    · obtain rfl : i = 7 := by omega
      have hn7 : n ≤ 7 := by have := HN.out; have := usPxN_len sz us 7; omega
      have HN7 := HN; have HO7 := HO
      have hun7 := HUN.out 7
      have HUN7 := Lib.hid hun7; clear hun7 HUN
      generalize usPxN sz us 7 = L0 at *
      clear HN HO HK hi hi7
      have hL07 : L0.length ≤ 7 := by have := HN7.out; omega
      have hLB := HUN7.out
      have HLB := Lib.hid hLB
      clear hLB
      go_wp2_with fail
      go_loopg [5, 36] ps.length (fun gn v5 v36 wj => ∃ k n : Nat, Hid (gn + k = ps.length) ∧ k ≤ ps.length ∧ v36 = .int .i64 k ∧ Hid (n = (L0 ++ (ps.take k).map (pxPart sz)).length) ∧ Hid (wj.ownsRow (w.heap.size + 1 + 1 + 1) 23 2 v5 n ((L0 ++ (ps.take k).map (pxPart sz)).flatMap ratL)) ∧ w.grows wj ∧ wj.row (w.heap.size + 1) = some (.cells #[.int .i64 f1, .int .i64 f2, .int .i64 r1, .int .i64 r2, .int .i64 v1, .int .i64 v2, .int .i64 h1, .int .i64 h2, .int .i64 cc1, .int .i64 cc2, .int .i64 d1, .int .i64 d2] 58) ∧ wj.row (w.heap.size + 1 + 1) = some (.cells #[.int .i64 0, .int .i64 0] 23))
      case atStart => exact ⟨0, n, rfl, Nat.zero_le _, rfl, Lib.hid (by rw [HN7.out]; simp), Lib.hid (by simpa using HO7.out), (by repeat (with_reducible first | assumption | exact grA | apply grB | apply grC | apply grD | refine grE ?_ (by omega) _ | refine grF ?_ (by omega) _ _)), by simp [go_sem, hx1], by simp [go_sem, hx2]⟩
      case round =>
        clear hx0 hx1 hx2 z0 z1 z2 y0 y1 y2 hg HN7 HO7 hn7
        obtain ⟨k, n, HK, hk, rfl, HN, HO, hg, hx1, hx2⟩ := hrel
        have z1 := row_sz' hx1; have z2 := row_sz' hx2
        by_cases hlt : k < ps.length
        · have hnn : n ≤ 4194311 := by
            have := HN.out
            rw [List.length_append, List.length_map, List.length_take, Nat.min_eq_left (Nat.le_of_lt hlt)] at this
            omega
          obtain ⟨a0', cap0, e0, hl0, hc0, hE0⟩ := HP.out
          injection e0 with e1 e2 e3
          subst e1; subst e3
          rcases hE0 with h | ⟨g, off, rfl, hSg, hcell⟩
          · rw [h] at hlt; cases hlt
          obtain ⟨cs', hl2, hel, v', rfl, hsl⟩ := hcell k ps[k] (by simp [hlt])
          have htk : (L0 ++ (ps.take (k + 1)).map (pxPart sz)).flatMap ratL = (L0 ++ (ps.take k).map (pxPart sz)).flatMap ratL ++ ratL (pxPart sz ps[k]) := by
            rw [List.take_succ_eq_append_getElem hlt, List.map_append, ← List.append_assoc, List.flatMap_append]; simp
          have htl : (L0 ++ (ps.take (k + 1)).map (pxPart sz)).length = n + 1 := by
            rw [List.take_succ_eq_append_getElem hlt, List.map_append, ← List.append_assoc, List.length_append, ← HN.out]; rfl
          have hszp : szQ ps[k] ≤ 4194303 := by
            have h1 := szP_mem (List.getElem_mem hlt)
            have h2 := HSZ.out
            rw [szF] at h2; omega
          have hfb := HFB.out _ (List.getElem_mem hlt)
          have he := hel.grows hg
          unfold eltAt at he
          have zr := lt_sz (hel.grows hg).lt
          generalize ps[k] = p at *
          obtain ⟨b, args⟩ := p
          obtain ⟨a1, c1, rfl, hn1, hn2⟩ := hsl.len
          have e3 : segOk (off + k * 2) 2 (wr.row g) = true := he.1
          have e4 : segV (off + k * 2) 2 (wr.row g) = .agg #[.bool b, .slice a1 args.length c1] := he.2
          rw [szQ_eq] at hszp
          have hal : args.length ≤ 4194303 := by have := szM_len args; omega
          have HSL := Lib.hid hsl; have HTK := Lib.hid htk; have HTL := Lib.hid htl; have HZP := Lib.hid hszp; have HFB2 := Lib.hid hfb
          clear hcell hel he hsl htk htl hszp hl2 hfb
          have hB8 : ∀ g, u5.ownBlock = some g → w.heap.size + 1 + 1 + 1 ≤ g ∧ g < wr.heap.size := fun g hg0 => own_lt HO.out hg0
          have HB8 := Lib.hid hB8; clear hB8
          have hbb : w.heap.size + 1 + 1 + 1 ≤ wr.heap.size := z2.1
          generalize hbe : wr.heap.size = bb at *
          go_wp2_with fail
          go_loopg [10, 43] args.length (fun gn v10 v43 wj => ∃ j : Nat, Hid (gn + j = args.length) ∧ j ≤ args.length ∧ v43 = .int .i64 j ∧ w.grows wj ∧ wj.row (w.heap.size + 1) = some (.cells #[.int .i64 f1, .int .i64 f2, .int .i64 r1, .int .i64 r2, .int .i64 v1, .int .i64 v2, .int .i64 h1, .int .i64 h2, .int .i64 cc1, .int .i64 cc2, .int .i64 d1, .int .i64 d2] 58) ∧ wj.row (w.heap.size + 1 + 1) = some (.cells #[.int .i64 0, .int .i64 0] 23) ∧ wj.row bb = some (.cells #[.bool b, .slice a1 args.length c1] 76) ∧
            Hid (wj.ownsRow (w.heap.size + 1 + 1 + 1) 23 2 u5 n ((L0 ++ (ps.take k).map (pxPart sz)).flatMap ratL)) ∧ Hid (wj.ownsRow (bb + 1) 23 2 v10 j (((args.take j).map (pxF sz)).flatMap ratL)))
          case atStart => exact ⟨0, rfl, Nat.zero_le _, rfl, (by repeat (with_reducible first | assumption | exact grA | apply grB | apply grC | apply grD | refine grE ?_ (by omega) _ | refine grF ?_ (by omega) _ _)), by simp [go_sem, hx1, z1, hbe], by simp [go_sem, hx2, z2, hbe], by simp [go_sem, hbe], HO.grows (by repeat (with_reducible first | assumption | exact grA | apply grB | apply grC | apply grD | refine grE ?_ (by omega) _ | refine grF ?_ (by omega) _ _)), World.ownsRow_nil _ _ _ _⟩
          case round =>
            obtain ⟨j, HK2, hj, rfl, hg2, hy1, hy2, hy3, HW5, HW10⟩ := hrel
            clear hx1 hx2 z1 z2 zr e3 e4 HO hbe hg
            have z1 := row_sz' hy1; have z2 := row_sz' hy2; have z3 := row_sz' hy3
            by_cases hlt2 : j < args.length
            · obtain ⟨a1', cap1, e0, hl1, hc1, hE1⟩ := HSL.out
              injection e0 with e1 e2 e3
              subst e1; subst e3
              rcases hE1 with h | ⟨g2, off2, rfl, hSg2, hcell2⟩
              · rw [h] at hlt2; cases hlt2
              obtain ⟨cs3, hl15, hel2, hfa⟩ := hcell2 j args[j] (by simp [hlt2])
              have htj : ((args.take (j + 1)).map (pxF sz)).flatMap ratL = ((args.take j).map (pxF sz)).flatMap ratL ++ ratL (pxF sz args[j]) := by
                rw [List.take_succ_eq_append_getElem hlt2, List.map_append, List.flatMap_append]; simp
              have hszf : szF args[j] ≤ 4194304 := by
                have h1 := szM_mem (List.getElem_mem hlt2)
                have h2 := HZP.out
                omega
              have he2 := hel2.grows hg2
              unfold eltAt at he2
              rw [hl15] at he2
              have zr2 := lt_sz (hel2.grows hg2).lt
              have e5 : segOk (off2 + j * 15) 15 (wr.row g2) = true := he2.1
              have e6 : segV (off2 + j * 15) 15 (wr.row g2) = .agg cs3.toArray := he2.2
              have c2 := fun W (hW : w.grows W) => IH.out args[j] cs3 W S (hfa.grows hW) hszf
              generalize pxF sz args[j] = q at *
              obtain ⟨q1, q2⟩ := q
              generalize args[j] = f at *
              obtain ⟨us3, ps3⟩ := f
              obtain ⟨hu37, _, v3, rfl, hs3⟩ := FormOk_us (⟨m, hfa⟩ : FormOk w S _ _)
              obtain ⟨a3, c3, rfl, hn31, hn32⟩ := hs3.len
              have C2 := Lib.hid c2; have HTJ := Lib.hid htj
              clear c2 htj hfa hs3 hel2 he2 hcell2 hl15 hszf
              go_wp2_with (first | (go_at_call 71; (with_reducible refine (C2.out _ (by repeat (with_reducible first | assumption | exact grA | apply grB | apply grC | apply grD | refine grE ?_ (by omega) _ | refine grF ?_ (by omega) _ _))).mono ?_); rintro e w1 ⟨rfl, x1, rfl⟩) | (at_builtin; refine wpList_app w (bb + 1) rfl (.tmp 47) (.tmp 51) _ rfl 23 (.agg #[.int .i64 0, .int .i64 0]) 2 16 Try.underlying85 (by kernel_rfl) rfl (by omega) (by omega) _ j _ rfl (HW10.out.grows (by repeat (with_reducible first | assumption | exact grA | apply grB | apply grC | apply grD | refine grE ?_ (by omega) _ | refine grF ?_ (by omega) _ _))) _ 1 _ [.int .i64 q1, .int .i64 q2] rfl rfl (cells_of_row (e := 23) (fr := (0, 0)) (by simp [go_sem])) (by simp [Value.oneCell']) (by omega) (by repeat (with_reducible first | assumption | exact grA | apply grB | apply grC | apply grD | refine grE ?_ (by omega) _ | refine grF ?_ (by omega) _ _)) (by omega) (by simp; omega) ?_; intro v' w' hg' HO' HR' HG' HA'))
              go_wp2_with fail
              go_roundg (args.length - (j + 1))
              case rel =>
                exact ⟨j + 1, Lib.hid (by omega), by omega, by go_num, hg', (HR'.out _ (by omega)).trans (by simp [go_sem, hy1, z1]), (HR'.out _ (by omega)).trans (by simp [go_sem, hy2, z2]), (HR'.out _ (by omega)).trans (by simp [go_sem, hy3, z3]),
                  Lib.hid (own_block_kept (W := w') (HW5.out.grows (by repeat (with_reducible first | assumption | exact grA | apply grB | apply grC | apply grD | refine grE ?_ (by omega) _ | refine grF ?_ (by omega) _ _))) (fun g h => HR'.out g (by have := (HB8.out g h).2; omega))), (by rw [HTJ.out]; exact HO')⟩
              case measure => have := HK2.out; omega
            · obtain rfl : j = args.length := by omega
              have hO := HW10.out
              rw [List.take_length] at hO
              have hO' : wr.ownsRow (bb + 1) 23 2 u10 (args.map (pxF sz)).length ((args.map (pxF sz)).flatMap ratL) := by rw [List.length_map]; exact hO
              have hR := RatsAt_of_owns hO' fun p hp => by
                obtain ⟨f, hf, rfl⟩ := List.mem_map.1 hp
                exact HFB2.out f hf
              have hq : pxPart sz (b, args) = bestQ (if b then 1 else -1) (args.map (pxF sz)) := rfl
              generalize pxPart sz (b, args) = q at *
              obtain ⟨q1, q2⟩ := q
              have HTKx := HTK
              clear hO hO' HW10
              cases b
              · have c1 : ∀ W, wr.grows W → Calls Try.prog 88 #[u10] W (Gives W (ratV (q1, q2))) := fun W hW => hq ▸ ratLeast_any u10 _ W (hR.grows hW)
                have C1 := Lib.hid c1; clear c1 hR hq
                go_wp2_with (first | (go_at_call 88; (with_reducible refine (C1.out _ (by repeat (with_reducible first | assumption | exact grA | apply grB | apply grC | apply grD | refine grE ?_ (by omega) _ | refine grF ?_ (by omega) _ _))).mono ?_); rintro e w1 ⟨rfl, x1, rfl⟩) | (at_builtin; refine wpList_app w (w.heap.size + 1 + 1 + 1) rfl (.tmp 61) (.tmp 64) _ rfl 23 (.agg #[.int .i64 0, .int .i64 0]) 2 16 Try.underlying85 (by kernel_rfl) rfl (by omega) (by omega) _ n _ rfl (HW5.out.grows (by repeat (with_reducible first | assumption | exact grA | apply grB | apply grC | apply grD | refine grE ?_ (by omega) _ | refine grF ?_ (by omega) _ _))) _ 1 _ [.int .i64 q1, .int .i64 q2] rfl rfl (cells_of_row (e := 23) (fr := (0, 0)) (by simp [go_sem])) (by simp [Value.oneCell']) (by omega) (by repeat (with_reducible first | assumption | exact grA | apply grB | apply grC | apply grD | refine grE ?_ (by omega) _ | refine grF ?_ (by omega) _ _)) (by omega) (by simp; omega) ?_; intro v' w' hg' HO' HR' HG' HA'))
                go_wp2_with fail
                go_roundg (ps.length - (k + 1))
                case rel => exact ⟨k + 1, n + 1, Lib.hid (by omega), by omega, by go_num, (Lib.hid HTL.out.symm), (by rw [HTK.out]; exact HO'), hg', (HR'.out _ (by omega)).trans (by simp [go_sem, hy1, z1]), (HR'.out _ (by omega)).trans (by simp [go_sem, hy2, z2])⟩
                case measure => have := HK.out; omega
              · have c1 : ∀ W, wr.grows W → Calls Try.prog 89 #[u10] W (Gives W (ratV (q1, q2))) := fun W hW => hq ▸ ratMost_any u10 _ W (hR.grows hW)
                have C1 := Lib.hid c1; clear c1 hR hq
                go_wp2_with (first | (go_at_call 89; (with_reducible refine (C1.out _ (by repeat (with_reducible first | assumption | exact grA | apply grB | apply grC | apply grD | refine grE ?_ (by omega) _ | refine grF ?_ (by omega) _ _))).mono ?_); rintro e w1 ⟨rfl, x1, rfl⟩) | (at_builtin; refine wpList_app w (w.heap.size + 1 + 1 + 1) rfl (.tmp 56) (.tmp 59) _ rfl 23 (.agg #[.int .i64 0, .int .i64 0]) 2 16 Try.underlying85 (by kernel_rfl) rfl (by omega) (by omega) _ n _ rfl (HW5.out.grows (by repeat (with_reducible first | assumption | exact grA | apply grB | apply grC | apply grD | refine grE ?_ (by omega) _ | refine grF ?_ (by omega) _ _))) _ 1 _ [.int .i64 q1, .int .i64 q2] rfl rfl (cells_of_row (e := 23) (fr := (0, 0)) (by simp [go_sem])) (by simp [Value.oneCell']) (by omega) (by repeat (with_reducible first | assumption | exact grA | apply grB | apply grC | apply grD | refine grE ?_ (by omega) _ | refine grF ?_ (by omega) _ _)) (by omega) (by simp; omega) ?_; intro v' w' hg' HO' HR' HG' HA'))
                go_wp2_with fail
                go_roundg (ps.length - (k + 1))
                case rel => exact ⟨k + 1, n + 1, Lib.hid (by omega), by omega, by go_num, (Lib.hid HTL.out.symm), (by rw [HTK.out]; exact HO'), hg', (HR'.out _ (by omega)).trans (by simp [go_sem, hy1, z1]), (HR'.out _ (by omega)).trans (by simp [go_sem, hy2, z2])⟩
                case measure => have := HK.out; omega
        · obtain rfl : k = ps.length := by omega
          have hO := HO.out
          have hN := HN.out
          rw [List.take_length] at hO hN
          rw [hN] at hO
          have hR := RatsAt_of_owns hO fun p hp => by
            rcases List.mem_append.1 hp with hp | hp
            · exact HLB.out p hp
            · obtain ⟨q, hq, rfl⟩ := List.mem_map.1 hp
              exact HPB.out q hq
          have c1 := fun W (hW : wr.grows W) => ratAdd_any u5 _ W (hR.grows hW)
          generalize foldQ (0, 1) addQ (L0 ++ ps.map (pxPart sz)) = R at *
          obtain ⟨R1, R2⟩ := R
          have C1 := Lib.hid c1
          clear c1 hR hO hN HO HN
          go_wp2_with (first | (go_at_call 76; (with_reducible refine (C1.out _ (by repeat (with_reducible first | assumption | exact grA | apply grB | apply grC | apply grD | refine grE ?_ (by omega) _ | refine grF ?_ (by omega) _ _))).mono ?_); rintro e w1 ⟨rfl, x1, rfl⟩) | ((with_reducible show bodyPost _ _ _ _ _ _); exact ret_23 rfl rfl (by simp [go_sem, hx1, hx2, z1, z2]) rfl ⟨by simp [go_sem, hx1, hx2, z1, z2], (by repeat (with_reducible first | assumption | exact grA | apply grB | apply grC | apply grD | refine grE ?_ (by omega) _ | refine grF ?_ (by omega) _ _))⟩))

theorem px_all (c : Cx) (hcb : c.bd) : ∀ (m : Nat), pxIH c m
  | 0 => fun _ _ _ _ h _ => h.elim
  | m + 1 => by
    intro f cs w S h hsz
    obtain ⟨us, ps⟩ := f
    have IH := px_all c hcb m
    obtain ⟨hu7, hub, v, rfl, hps⟩ := h
    obtain ⟨a, cap, rfl, h1, h2⟩ := hps.len
    exact px_step c hcb m IH us ps a cap w S hu7 hub hps hsz
theorem px_any (c : Cx) (hcb : c.bd) (f : Fm) (cs : List Value) (w : World) (S : Nat → Prop) (h : FormOk w S f cs) (hsz : szF f ≤ 4194304) :
    Calls Try.prog 71 #[.agg cs.toArray, .agg (cxL c).toArray] w (Gives w (ratV (pxF (sizeQ c) f))) := by
  obtain ⟨m, h⟩ := h
  exact px_all c hcb m f cs w S h hsz
end Go.Proofs.Ythmicnjigfcljaa


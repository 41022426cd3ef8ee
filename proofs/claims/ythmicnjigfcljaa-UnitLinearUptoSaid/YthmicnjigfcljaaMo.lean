/- Texts of the walk, one after the other; what each proves stands ahead of it. -/
import Derived.Test.YthmicnjigfcljaaMa
import Derived.Test.YthmicnjigfcljaaMm
import Derived.Test.YthmicnjigfcljaaMq
set_option linter.unusedSimpArgs false
set_option linter.unusedVariables false
/- WALKS over norm: nothing, sure, Zero, One. No condition but that numbers are of their kinds. -/
namespace Go.Proofs.Ythmicnjigfcljaa
open Go.RowKit

set_option maxRecDepth 100000 in
theorem nothing_any (w : World) : Calls Try.prog 65 #[] w (Gives w (.agg #[.int .i64 0, .int .i64 1])) := by
  go_enter Try.func65, Try.ntmps65
  go_wp2_with (first | ((with_reducible show bodyPost _ _ _ _ _ _); exact ret_23 rfl rfl (by simp [go_sem]) rfl ⟨by simp [go_sem], (by repeat (first | exact grA | apply grB | apply grC | apply grD))⟩))

set_option maxRecDepth 100000 in
theorem normSure_any (a b : Int) (w : World) (wa : I64 a) (wb : I64 b) : Calls Try.prog 64 #[.agg #[.int .i64 a, .int .i64 b]] w (Gives w (ratV (cleanQ (a, b)))) := by
  have s1 := fun w => may_any a b w wa.1 wa.2 wb.1 wb.2
  unfold cleanQ
  simp only
  cases t1 : mayB a b with
  | false =>
    rw [t1] at s1
    have S1 := Lib.hid s1; clear s1 t1
    simp only [Bool.false_eq_true, if_false]
    go_enter Try.func64, Try.ntmps64
    go_wp2_with (first | (go_at_call 93; (with_reducible refine (S1.out _).mono ?_); rintro e w1 ⟨rfl, x1, rfl⟩) | ((with_reducible show bodyPost _ _ _ _ _ _); exact ret_23 rfl rfl (by simp [go_sem]) rfl ⟨by simp [go_sem], (by repeat (first | exact grA | apply grB | apply grC | apply grD))⟩))
  | true =>
    rw [t1] at s1
    have S1 := Lib.hid s1; clear s1 t1
    simp only [if_true]
    go_enter Try.func64, Try.ntmps64
    go_wp2_with (first | (go_at_call 93; (with_reducible refine (S1.out _).mono ?_); rintro e w1 ⟨rfl, x1, rfl⟩) | ((with_reducible show bodyPost _ _ _ _ _ _); exact ret_23 rfl rfl (by simp [go_sem]) rfl ⟨by simp [go_sem], (by repeat (first | exact grA | apply grB | apply grC | apply grD))⟩))

set_option maxRecDepth 100000 in
set_option maxHeartbeats 4000000 in
theorem zero_any (w : World) : Calls Try.prog 31 #[] w (Gives w (.agg (formC zeroU (.slice none 0 0)).toArray)) := by
  go_enter Try.func31, Try.ntmps31
  go_wp2_with fail
  go_loopw [3] (fun v3 wr => ∃ i : Nat, i ≤ 7 ∧ v3 = .int .i64 i ∧ w.grows wr ∧ wr.row w.heap.size = some (.cells (formC (zs 0) (.slice none 0 0)).toArray 30) ∧ wr.row (w.heap.size + 1) = some (.cells (formC (zs i) (.slice none 0 0)).toArray 30)) (fun i _ => 7 - (intOf i).toNat)
  case atStart => exact ⟨0, by omega, rfl, (by repeat (with_reducible first | assumption | exact grA | apply grB | apply grC | apply grD | refine grE ?_ (by omega) _ | refine grF ?_ (by omega) _ _)), by simp [go_sem]; rfl, by simp [go_sem]; rfl⟩
  case round =>
    obtain ⟨i, hi, rfl, hg, hx, hy⟩ := hrel
    have z2 := row_sz' hy
    have hl := zs_len i
    have z1 := row_sz' hx
    by_cases hlt : i < 7
    · have hset : setL (formC (zs i) (.slice none 0 0)).toArray (i * 2) [.int .i64 0, .int .i64 1] = (formC (zs (i + 1)) (.slice none 0 0)).toArray := by
        have := formC_set (us := zs i) (v := .slice none 0 0) (i := i) (by omega) (0, 1)
        rw [zs_set hlt] at this; exact this
      have hi2 : i * 2 + 2 ≤ 15 := by omega
      have HS := Lib.hid hset; clear hset
      go_wp2_with (first | (go_at_call 65; (with_reducible refine (nothing_any _).mono ?_); rintro e w1 ⟨rfl, x1, rfl⟩))
      go_roundw
      case rel => exact ⟨i + 1, by omega, by go_num, (by repeat (with_reducible first | assumption | exact grA | apply grB | apply grC | apply grD | refine grE ?_ (by omega) _ | refine grF ?_ (by omega) _ _)), by simp [go_sem, hx, hy, z1, z2], by simp [go_sem, hx, hy, z1, z2, HS.out]⟩
      case measure => simp [intOf]; omega
    · obtain rfl : i = 7 := by omega
      have e7 : zs 7 = zeroU := rfl
      rw [e7] at hy hl
      go_wp2_with (first | ((with_reducible show bodyPost _ _ _ _ _ _); exact ret_30 rfl rfl (by simp [go_sem, hx, hy, z1, z2]) rfl ⟨by simp [go_sem, hx, hy, z1, z2], (by repeat (with_reducible first | assumption | exact grA | apply grB | apply grC | apply grD | refine grE ?_ (by omega) _ | refine grF ?_ (by omega) _ _))⟩))

set_option maxRecDepth 100000 in
set_option maxHeartbeats 4000000 in
theorem one_any (u : Int) (a b : Int) (w : World) (wu : I64 u) (wa : I64 a) (wb : I64 b) : Calls Try.prog 32 #[.int .i64 u, .agg #[.int .i64 a, .int .i64 b]] w (Gives w (.agg (formC (oneU u (a, b)) (.slice none 0 0)).toArray)) := by
  have c1 := fun W => normSure_any a b W wa wb
  by_cases hu : 1 ≤ u ∧ u ≤ 7
  · obtain ⟨k, hk, rfl⟩ : ∃ k : Nat, k < 7 ∧ u = (k : Int) + 1 := ⟨(u - 1).toNat, by omega, by omega⟩
    have e : oneU ((k : Int) + 1) (a, b) = zeroU.set k (cleanQ (a, b)) := by
      unfold oneU; rw [if_pos (by omega)]; congr 1; omega
    rw [e]
    have hset : setL (formC zeroU (.slice none 0 0)).toArray (k * 2) [.int .i64 (cleanQ (a, b)).1, .int .i64 (cleanQ (a, b)).2] = (formC (zeroU.set k (cleanQ (a, b))) (.slice none 0 0)).toArray :=
      formC_set (us := zeroU) (v := .slice none 0 0) (i := k) (by rw [zeroU_len]; exact hk) _
    have hln : (zeroU.set k (cleanQ (a, b))).length = 7 := by rw [List.length_set]; rfl
    generalize zeroU.set k (cleanQ (a, b)) = us at *
    generalize cleanQ (a, b) = q at *
    obtain ⟨q1, q2⟩ := q
    have hi2 : k * 2 + 2 ≤ 15 := by omega
    have h7 : k < 7 := hk
    have hk1 : 1 ≤ (k : Int) + 1 := by omega
    have hk2 : (k : Int) + 1 ≤ 7 := by omega
    have C1 := Lib.hid c1; clear c1 wa wb e hu wu
    go_enter Try.func32, Try.ntmps32
    go_wp2_with (first | (go_at_call 31; (with_reducible refine (zero_any _).mono ?_); rintro e w1 ⟨rfl, x1, rfl⟩) | (go_at_call 64; (with_reducible refine (C1.out _).mono ?_); rintro e w1 ⟨rfl, x1, rfl⟩) | ((with_reducible show bodyPost _ _ _ _ _ _); exact ret_30 rfl rfl (by simp [go_sem, hset, hln]) rfl ⟨by simp [go_sem, hset, hln], (by repeat (with_reducible first | assumption | exact grA | apply grB | apply grC | apply grD | refine grE ?_ (by omega) _ | refine grF ?_ (by omega) _ _))⟩))
  · have e : oneU u (a, b) = zeroU := by unfold oneU; rw [if_neg hu]
    rw [e]
    clear c1 wa wb e
    by_cases h1 : 1 ≤ u
    · have h2 : ¬ u ≤ 7 := by omega
      have h2' : decide (u ≤ 7) = false := by simpa using h2
      have h1' : decide (1 ≤ u) = true := by simpa using h1
      clear hu
      go_enter Try.func32, Try.ntmps32
      go_wp2_with (first | (go_at_call 31; (with_reducible refine (zero_any _).mono ?_); rintro e w1 ⟨rfl, x1, rfl⟩) | ((with_reducible show bodyPost _ _ _ _ _ _); exact ret_30 rfl rfl (by simp [go_sem]) rfl ⟨by simp [go_sem], (by repeat (first | exact grA | apply grB | apply grC | apply grD))⟩))
      all_goals (exfalso; omega)
    · have h1' : decide (1 ≤ u) = false := by simpa using h1
      clear hu
      go_enter Try.func32, Try.ntmps32
      go_wp2_with (first | (go_at_call 31; (with_reducible refine (zero_any _).mono ?_); rintro e w1 ⟨rfl, x1, rfl⟩) | ((with_reducible show bodyPost _ _ _ _ _ _); exact ret_30 rfl rfl (by simp [go_sem]) rfl ⟨by simp [go_sem], (by repeat (first | exact grA | apply grB | apply grC | apply grD))⟩))
      all_goals (exfalso; omega)

end Go.Proofs.Ythmicnjigfcljaa

/- WALK over norm: the sum of forms. No condition but that the forms stand in memory and are not too many. -/
namespace Go.Proofs.Ythmicnjigfcljaa
open Go.RowKit

set_option maxRecDepth 100000 in
set_option maxHeartbeats 4000000 in
theorem add_any (l : List Fm) (v : Value) (w : World) (S : Nat → Prop) (hS : ∀ g, w.heap.size ≤ g → S g) (hl : SlAt w S 15 (FormOk w S) v l) (hlen : l.length ≤ 4194304) (hps : (l.flatMap Fm.ps).length ≤ 33554432) :
    Calls Try.prog 67 #[v] w (FormP w S (addF l)) := by
  obtain ⟨a, cap, rfl, hlc, hc, hE⟩ := hl
  have hfb : ∀ f ∈ l, f.us.length = 7 ∧ ∀ p ∈ f.us, I64p p := fun f hf => by
    rcases hE with h | ⟨g, off, _, _, hcell⟩
    · rw [h] at hf; cases hf
    · obtain ⟨i, hi, rfl⟩ := List.mem_iff_getElem.1 hf
      obtain ⟨cs, _, _, hok⟩ := hcell i l[i] (by simp [hi])
      generalize l[i] = f at *
      obtain ⟨us, ps⟩ := f
      exact ⟨(FormOk_us hok).1, (FormOk_us hok).2.1⟩
  have HE := Lib.hid hE; have HS := Lib.hid hS; have HF := Lib.hid hfb; have HP := Lib.hid hps; clear hE hS hfb hps
  go_enter Try.func67, Try.ntmps67
  go_wp2_with (first | (go_at_call 31; (with_reducible refine (zero_any _).mono ?_); rintro e w1 ⟨rfl, x1, rfl⟩))
  generalize ho : w.heap.size + 1 + x1.bs.size = o
  have ho1 : w.heap.size < o := by omega
  have ne1 : (w.heap.size = o) = False := by apply eq_false; omega
  have ne2 : (o = w.heap.size) = False := by apply eq_false; omega
  go_loopg [11] 7 (fun gn v11 wr => ∃ i : Nat, Hid (gn + i = 7) ∧ i ≤ 7 ∧ v11 = .int .i64 i ∧ w.grows wr ∧ wr.row w.heap.size = some (.cells (formC (zs 0) (.slice none 0 0)).toArray 30) ∧ wr.row o = some (.cells (formC (addU l i) (.slice none 0 0)).toArray 30))
  case atStart => exact ⟨0, rfl, by omega, rfl, (by repeat (with_reducible first | assumption | exact grA | apply grB | apply grC | apply grD | refine grE ?_ (by omega) _ | refine grF ?_ (by omega) _ _)), by simp [go_sem, ho, ne1, ne2]; rfl, by simp [go_sem, ho, ne1, ne2, addU_zero]⟩
  case round =>
    obtain ⟨i, HK, hi, rfl, hg, hx, hy⟩ := hrel
    clear ho x1
    have z1 := row_sz' hx; have z2 := row_sz' hy
    by_cases hlt7 : i < 7
    · have hd7 : decide ((i : Int) < 7) = true := by rw [decide_eq_true_eq]; omega
      go_wp2_with fail
      clear hd7
      go_loopg [5, 16] l.length (fun gn v5 v16 wj => ∃ j : Nat, Hid (gn + j = l.length) ∧ j ≤ l.length ∧ v16 = .int .i64 j ∧ Hid (wj.ownsRow (o + 1) 23 2 v5 j (((l.take j).map (·.u i)).flatMap ratL)) ∧ w.grows wj ∧ wj.row w.heap.size = some (.cells (formC (zs 0) (.slice none 0 0)).toArray 30) ∧ wj.row o = some (.cells (formC (addU l i) (.slice none 0 0)).toArray 30))
      case atStart => exact ⟨0, rfl, Nat.zero_le _, rfl, World.ownsRow_nil _ _ _ _, (by repeat (with_reducible first | assumption | exact grA | apply grB | apply grC | apply grD | refine grE ?_ (by omega) _ | refine grF ?_ (by omega) _ _)), by simp [go_sem, hx], by simp [go_sem, hy]⟩
      case round =>
        obtain ⟨j, HK2, hj, rfl, HO, hg2, hx2, hy2⟩ := hrel
        clear hx hy z1 z2 hg
        have z1 := row_sz' hx2; have z2 := row_sz' hy2
        by_cases hlt : j < l.length
        · rcases HE.out with h | ⟨g, off, rfl, hSg, hcell⟩
          · rw [h] at hlt; cases hlt
          obtain ⟨cs', hl15, hel, hok⟩ := hcell j l[j] (by simp [hlt])
          have he := hel.grows hg2
          unfold eltAt at he
          rw [hl15] at he
          have zr := lt_sz (hel.grows hg2).lt
          have e3 : segOk (off + j * 15) 15 (wr.row g) = true := he.1
          have e4 : segV (off + j * 15) 15 (wr.row g) = .agg cs'.toArray := he.2
          have hnx : ((l.take (j + 1)).map (·.u i)).flatMap ratL = ((l.take j).map (·.u i)).flatMap ratL ++ ratL (l[j].u i) := by
            rw [List.take_succ_eq_append_getElem hlt, List.map_append, List.flatMap_append]; simp
          generalize l[j] = f at *
          obtain ⟨us, ps⟩ := f
          obtain ⟨hu7, hub, v', rfl, hps'⟩ := FormOk_us hok
          obtain ⟨a', c', rfl, hn1, hn2⟩ := hps'.len
          have hui : Fm.u (.mk us ps) i = us[i]'(by omega) := by
            show us.getD i (0, 1) = _
            rw [List.getD_eq_getElem?_getD, List.getElem?_eq_getElem (by omega)]; rfl
          have hget : segV (i * 2) 2 (some (.cells (formC us (.slice a' ps.length c')).toArray 30)) = ratV (us[i]'(by omega)) := formC_get (by omega)
          rw [hui] at hnx
          generalize us[i]'(by omega) = q at *
          obtain ⟨q1, q2⟩ := q
          have hi2 : i * 2 + 2 ≤ 15 := by omega
          have HNX := Lib.hid hnx
          clear hnx hui hel he hok hcell hps' hl15
          go_wp2_with (first | (at_builtin; refine wpList_app w (o + 1) rfl (.tmp 20) (.tmp 25) _ rfl 23 (.agg #[.int .i64 0, .int .i64 0]) 2 16 Try.underlying85 (by kernel_rfl) rfl (by omega) (by omega) _ j _ rfl (HO.out.grows (by repeat (with_reducible first | assumption | exact grA | apply grB | apply grC | apply grD | refine grE ?_ (by omega) _ | refine grF ?_ (by omega) _ _))) _ 1 _ [.int .i64 q1, .int .i64 q2] rfl rfl (cells_of_row (e := 23) (fr := (0, 0)) (by simp [go_sem])) (by simp [Value.oneCell']) (by omega) (by repeat (with_reducible first | assumption | exact grA | apply grB | apply grC | apply grD | refine grE ?_ (by omega) _ | refine grF ?_ (by omega) _ _)) (by omega) (by simp; omega) ?_; intro v' w' hg' HO' HR' HG' HA'))
          go_wp2_with fail
          go_roundg (l.length - (j + 1))
          case rel => exact ⟨j + 1, Lib.hid (by omega), by omega, by go_num, (by rw [HNX.out]; exact HO'), hg', (HR'.out _ (by omega)).trans (by simp [go_sem, hx2, z1]), (HR'.out _ (by omega)).trans (by simp [go_sem, hy2, z2])⟩
          case measure => have := HK2.out; omega
        · obtain rfl : j = l.length := by omega
          have hO := HO.out
          rw [List.take_length] at hO
          have hO' : wr.ownsRow (o + 1) 23 2 u5 (l.map (·.u i)).length ((l.map (·.u i)).flatMap ratL) := by rw [List.length_map]; exact hO
          have hR := RatsAt_of_owns hO' fun p hp => by
            obtain ⟨f, hf, rfl⟩ := List.mem_map.1 hp
            exact Fm.u_bd (HF.out f hf).2 i
          have c0 := fun W (hW : wr.grows W) => ratAdd_any u5 _ W (hR.grows hW)
          have hset : setL (formC (addU l i) (.slice none 0 0)).toArray (i * 2) [.int .i64 (foldQ (0, 1) addQ (l.map (·.u i))).1, .int .i64 (foldQ (0, 1) addQ (l.map (·.u i))).2] = (formC (addU l (i + 1)) (.slice none 0 0)).toArray := by
            have := formC_set (us := addU l i) (v := .slice none 0 0) (i := i) (by rw [addU_len]; exact hlt7) (foldQ (0, 1) addQ (l.map (·.u i)))
            rw [addU_set l hlt7] at this; exact this
          generalize foldQ (0, 1) addQ (l.map (·.u i)) = R at *
          obtain ⟨R1, R2⟩ := R
          have C1 := Lib.hid c0; have HT := Lib.hid hset
          have hi2 : i * 2 + 2 ≤ 15 := by omega
          clear c0 hset hR hO hO' HO
          go_wp2_with (first | (go_at_call 76; (with_reducible refine (C1.out _ (by repeat (with_reducible first | assumption | exact grA | apply grB | apply grC | apply grD | refine grE ?_ (by omega) _ | refine grF ?_ (by omega) _ _))).mono ?_); rintro e w1 ⟨rfl, x2, rfl⟩))
          go_roundg (7 - (i + 1))
          case rel => exact ⟨i + 1, Lib.hid (by omega), by omega, by go_num, (by repeat (with_reducible first | assumption | exact grA | apply grB | apply grC | apply grD | refine grE ?_ (by omega) _ | refine grF ?_ (by omega) _ _)), by simp [go_sem, hx2, hy2, z1, z2, ne1, ne2], by simp [go_sem, hx2, hy2, z1, z2, ne1, ne2, HT.out]⟩
          case measure => have := HK.out; omega
    · obtain rfl : i = 7 := by omega
      have hU : (addU l 7).length = 7 := addU_len l 7
      have eU : addU l 7 = (addF l).us := addU_all l
      have EU := Lib.hid eU
      generalize addU l 7 = U at *
      clear eU HK hi hlt7
      go_wp2_with fail
      go_loopg [36] l.length (fun gn v36 wj => ∃ (k : Nat) (ap : Option Addr) (np cp : Nat), Hid (gn + k = l.length) ∧ k ≤ l.length ∧ v36 = .int .i64 k ∧ Hid (np = ((l.take k).flatMap Fm.ps).length) ∧ w.grows wj ∧ wj.row w.heap.size = some (.cells (formC (zs 0) (.slice none 0 0)).toArray 30) ∧ wj.row o = some (.cells (formC U (.slice ap np cp)).toArray 30) ∧ Hid (OwnAt wj (o + 1) 76 2 (PartR (FormOk w S) w S) (.slice ap np cp) ((l.take k).flatMap Fm.ps)))
      case atStart => exact ⟨0, none, 0, 0, rfl, Nat.zero_le _, rfl, rfl, (by repeat (with_reducible first | assumption | exact grA | apply grB | apply grC | apply grD | refine grE ?_ (by omega) _ | refine grF ?_ (by omega) _ _)), by simp [go_sem, hx], by simp [go_sem, hy], OwnAt_nil _ _ _ _ _⟩
      case round =>
        clear hx hy z1 z2 hg
        obtain ⟨k, ap, np, cp, HK2, hk, rfl, HN, hg, hx, hy, HW⟩ := hrel
        have z1 := row_sz' hx; have z2 := row_sz' hy
        by_cases hlt : k < l.length
        · rcases HE.out with h | ⟨g, off, rfl, hSg, hcell⟩
          · rw [h] at hlt; cases hlt
          obtain ⟨cs', hl15, hel, hok⟩ := hcell k l[k] (by simp [hlt])
          have he := hel.grows hg
          unfold eltAt at he
          rw [hl15] at he
          have zr := lt_sz (hel.grows hg).lt
          have e3 : segOk (off + k * 15) 15 (wr.row g) = true := he.1
          have e4 : segV (off + k * 15) 15 (wr.row g) = .agg cs'.toArray := he.2
          have htk : (l.take (k + 1)).flatMap Fm.ps = (l.take k).flatMap Fm.ps ++ l[k].ps := by
            rw [List.take_succ_eq_append_getElem hlt, List.flatMap_append]; simp
          have hle : ((l.take (k + 1)).flatMap Fm.ps).length ≤ 33554432 := Nat.le_trans (take_flat_le l _ _) HP.out
          have hnl := HN.out
          rw [htk, List.length_append, ← hnl] at hle
          generalize l[k] = f at *
          obtain ⟨us, ps⟩ := f
          obtain ⟨hu7, hub, v', rfl, hps'⟩ := FormOk_us hok
          obtain ⟨a', c', rfl, hn1, hn2⟩ := hps'.len
          obtain ⟨_, css', k1, k2, k3, k4⟩ := hps'.cells (by omega)
          have k4' : ∀ W, w.grows W → (ps.length = 0 ∨ ∃ ad, a' = some ad ∧ ∀ j u, css'.flatten[j]? = some u → W.cell? (ad.add j) = some u) := fun W hW => by
            rcases k4 with h | ⟨ad, e, h⟩
            · exact .inl h
            · exact .inr ⟨ad, e, fun j u hj => hW.cell_eq (h j u hj)⟩
          have h1 := parts_one k1 k2
          obtain ⟨css, o1, o2, o3⟩ := HW.out
          rw [← hnl] at o3
          change np + ps.length ≤ 33554432 at hle
          change _ = (l.take k).flatMap Fm.ps ++ ps at htk
          have K4 := Lib.hid k4'; have H1 := Lib.hid h1; have O3 := Lib.hid o3; have K2 := Lib.hid k2; have O2 := Lib.hid o2; have K3 := Lib.hid k3; have K1 := Lib.hid k1; have O1 := Lib.hid o1; have HTK := Lib.hid htk; have HNL := Lib.hid hnl
          clear hel he hok hcell hps' hl15 k1 k2 k3 k4 k4' h1 o1 o2 o3 HW htk hnl HN
          go_wp2_with (first | ((at_builtin; refine wpList_appS w (o + 1) rfl (.tmp 41) (.tmp 43) _ rfl 76 (.agg #[.bool false, .slice none 0 0]) 2 32 Try.underlying28 (by kernel_rfl) rfl (by omega) (by omega) _ np _ rfl (O3.out.grows (by repeat (with_reducible first | assumption | exact grA | apply grB | apply grC | apply grD | refine grE ?_ (by omega) _ | refine grF ?_ (by omega) _ _))) _ ps.length _ css'.flatten rfl K3.out (K4.out _ (by repeat (with_reducible first | assumption | exact grA | apply grB | apply grC | apply grD | refine grE ?_ (by omega) _ | refine grF ?_ (by omega) _ _))) H1.out (by omega) (by repeat (with_reducible first | assumption | exact grA | apply grB | apply grC | apply grD | refine grE ?_ (by omega) _ | refine grF ?_ (by omega) _ _)) (by omega) (by simp; omega) ?_; intro v' w' hg' HO' HR' HG' HA'); obtain ⟨a2, c2, rfl⟩ := own_slice HO'.out; have hy' : w'.row o = some (.cells (formC U (.slice ap np cp)).toArray 30) := (HR'.out _ (by omega)).trans (by simp [go_sem, hy, z2]); have hx' : w'.row w.heap.size = some (.cells (formC (zs 0) (.slice none 0 0)).toArray 30) := (HR'.out _ (by omega)).trans (by simp [go_sem, hx, z1]); have zy' := row_sz' hy'; have zx' := row_sz' hx'))
          go_roundg (l.length - (k + 1))
          case rel => exact ⟨k + 1, a2, np + ps.length, c2, Lib.hid (by omega), by omega, by go_num, Lib.hid (by rw [HTK.out, List.length_append, ← HNL.out]), (by repeat (with_reducible first | assumption | exact grA | apply grB | apply grC | apply grD | refine grE ?_ (by omega) _ | refine grF ?_ (by omega) _ _)), by simp [go_sem, hx', hy', ne1, ne2], by simp [go_sem, hy', hU], Lib.hid (by
            rw [HTK.out]
            have hown := HO'.out.row_kept (W := w'.setCell ⟨o, 14, none⟩ (.slice a2 (np + ps.length) c2)) (fun g hg1 _ => by rw [World.row_setCell, if_neg (by omega)])
            exact OwnAt.append O1.out O2.out K1.out K2.out (fun _ _ h => h) (by rw [← HNL.out]; exact hown))⟩
          case measure => have := HK2.out; omega
        · obtain rfl : k = l.length := by omega
          have hW := HW.out
          have hN := HN.out
          rw [List.take_length] at hW hN
          have hnp : np = (addF l).ps.length := hN
          have hsl := hW.slAt (S := fun g => o + 1 ≤ g) (by omega) (fun g hg0 => by
            obtain ⟨css, _, _, ho⟩ := hW
            exact (ho.lt g hg0).1)
          have h2 := addF_bd (fun f hf => (HF.out f hf).2)
          rw [← EU.out] at h2
          have H2 := Lib.hid h2; have HSL := Lib.hid hsl; have HNP := Lib.hid hnp
          clear hW hsl h2 HW HN hN hnp
          go_wp2_with fail
          (with_reducible show bodyPost _ _ _ _ _ _); exact ret_30 rfl rfl (by simp [go_sem, hx, hy, z1, z2, ne1, ne2, hU]) rfl ⟨ap, cp, (by simp [go_sem, hx, hy, z1, z2, ne1, ne2, hU, EU.out, HNP.out]), (by repeat (with_reducible first | assumption | exact grA | apply grB | apply grC | apply grD | refine grE ?_ (by omega) _ | refine grF ?_ (by omega) _ _)), (EU.out ▸ hU), (EU.out ▸ H2.out), HNP.out ▸ HSL.out.keep (fun g h1 _ => ⟨by rw [World.row_setRow, if_neg (by omega)], HS.out g (by omega)⟩) (fun x _ cs ⟨v', e, h⟩ => ⟨v', e, h.grows (by repeat (with_reducible first | assumption | exact grA | apply grB | apply grC | apply grD | refine grE ?_ (by omega) _ | refine grF ?_ (by omega) _ _)) (fun f _ cs hf => hf.grows (by repeat (with_reducible first | assumption | exact grA | apply grB | apply grC | apply grD | refine grE ?_ (by omega) _ | refine grF ?_ (by omega) _ _)))⟩)⟩

end Go.Proofs.Ythmicnjigfcljaa

/- PLAIN: which units forms use, as bits. No condition; no program. -/
namespace Go
open Go.RowKit

def mskN (b : Nat → Bool) : Nat → Nat
  | 0 => 0
  | i + 1 => mskN b i ||| (if b i then 2 ^ i else 0)
theorem mskN_test (b : Nat → Bool) : ∀ n j, (mskN b n).testBit j = (decide (j < n) && b j)
  | 0, j => by simp [mskN]
  | n + 1, j => by
    show (mskN b n ||| (if b n then 2 ^ n else 0)).testBit j = _
    rw [Nat.testBit_or, mskN_test b n j]
    by_cases hb : b n = true
    · rw [if_pos hb, Nat.testBit_two_pow]
      by_cases h : n = j
      · subst h; simp [hb]
      · have : (j < n + 1) = (j < n) := by apply propext; omega
        simp [h, this]
    · rw [if_neg hb]
      by_cases h : n = j
      · subst h; simp at hb; simp [hb]
      · have : (j < n + 1) = (j < n) := by apply propext; omega
        simp [this]
theorem mskN_lt (b : Nat → Bool) (n : Nat) : mskN b n < 2 ^ n := by
  apply Nat.lt_pow_two_of_testBit
  intro i hi
  rw [mskN_test]
  simp; omega
theorem msk_or (a b : Nat → Bool) (n : Nat) : mskN a n ||| mskN b n = mskN (fun i => a i || b i) n := by
  apply Nat.eq_of_testBit_eq
  intro i
  rw [Nat.testBit_or, mskN_test, mskN_test, mskN_test]
  cases decide (i < n) <;> simp
theorem msk_congr {a b : Nat → Bool} {n : Nat} (h : ∀ i, i < n → a i = b i) : mskN a n = mskN b n := by
  apply Nat.eq_of_testBit_eq
  intro i
  rw [mskN_test, mskN_test]
  by_cases hi : i < n
  · simp [hi, h i hi]
  · simp [hi]
theorem usedI_snoc (l : List Fm) (f : Fm) (i : Nat) : usedI (l ++ [f]) i = (usedI l i || (f.u i != (0, 1))) := by
  unfold usedI; rw [List.any_append]; simp
theorem plainB_snoc (l : List Fm) (f : Fm) : plainB (l ++ [f]) = (plainB l && (f.ps.length == 0)) := by
  unfold plainB; rw [List.all_append]; simp
theorem bits_or_bit {u i : Nat} (hu : u < 128) (hi : i < 7) : bits .or .i64 (u : Int) (wrap64 (2 ^ i)) = ((u ||| 2 ^ i : Nat) : Int) := by
  have h : ∀ (u : Fin 128) (i : Fin 7), bits .or .i64 ((u.val : Nat) : Int) (wrap64 (2 ^ i.val)) = ((u.val ||| 2 ^ i.val : Nat) : Int) := by decide +kernel
  exact h ⟨u, hu⟩ ⟨i, hi⟩
/-- how many bits -/
def popN (m : Nat) : Nat := (List.range 7).countP (fun i => m.testBit i)
theorem popN_msk (b : Nat → Bool) : popN (mskN b 7) = (List.range 7).countP b := by
  unfold popN
  refine List.countP_congr fun i hi => ?_
  rw [mskN_test]; simp [List.mem_range.1 hi]
theorem find_msk (b : Nat → Bool) : (List.range 7).find? (fun i => (mskN b 7).testBit i) = (List.range 7).find? b := by
  have : ∀ (l : List Nat), (∀ i ∈ l, i < 7) → l.find? (fun i => (mskN b 7).testBit i) = l.find? b := by
    intro l
    induction l with
    | nil => intro _; rfl
    | cons x l ih =>
      intro h
      have e : (mskN b 7).testBit x = b x := by rw [mskN_test]; simp [h x (by simp)]
      rw [List.find?_cons, List.find?_cons, e, ih (fun i hi => h i (by simp [hi]))]
  exact this _ fun i hi => List.mem_range.1 hi
theorem bits_and_pop {m : Nat} (hm : m < 128) : (bits .and .i64 (m : Int) ((m : Int) - 1) == 0) = decide (popN m < 2) := by
  have h : ∀ (m : Fin 128), (bits .and .i64 ((m.val : Nat) : Int) (((m.val : Nat) : Int) - 1) == 0) = decide (popN m.val < 2) := by decide +kernel
  exact h ⟨m, hm⟩
theorem pow_of_bit {m i : Nat} (hm : m < 128) (hi : i < 7) (hp : popN m < 2) (hb : m.testBit i = true) : m = 2 ^ i := by
  have h : ∀ (m : Fin 128) (i : Fin 7), popN m.val < 2 → m.val.testBit i.val = true → m.val = 2 ^ i.val := by decide +kernel
  exact h ⟨m, hm⟩ ⟨i, hi⟩ hp hb
theorem wrap_pow {i : Nat} (hi : i < 7) : wrap64 (2 ^ i) = ((2 ^ i : Nat) : Int) := by
  have h : ∀ (i : Fin 7), wrap64 (2 ^ i.val) = ((2 ^ i.val : Nat) : Int) := by decide +kernel
  exact h ⟨i, hi⟩
theorem ne_pow_of_bit {m i : Nat} (hb : m.testBit i = false) : m ≠ 2 ^ i := by
  rintro rfl; rw [Nat.testBit_two_pow] at hb; simp at hb
theorem oneU_bd {u : Int} {r : Int × Int} (hr : I64p r) : ∀ p ∈ oneU u r, I64p p := by
  have hc : I64p (cleanQ r) := by unfold cleanQ; split; exact hr; simp [I64p, I64]
  have hz : I64p (0, 1) := by simp [I64p, I64]
  intro p hp
  unfold oneU at hp
  split at hp
  · rcases List.mem_or_eq_of_mem_set hp with h | rfl
    · unfold zeroU at h; rw [List.eq_of_mem_replicate h]; exact hz
    · exact hc
  · unfold zeroU at hp; rw [List.eq_of_mem_replicate hp]; exact hz
theorem zeroU_bd : ∀ p ∈ zeroU, I64p p := by
  intro p hp
  unfold zeroU at hp; rw [List.eq_of_mem_replicate hp]; simp [I64p, I64]
theorem forms_one {w : World} {S : Nat → Prop} {l : List Fm} {css : List (List Value)} (hl : css.length = l.length)
    (h : ∀ (i : Nat) (x : Fm) (cs : List Value), l[i]? = some x → css[i]? = some cs → cs.length = 15 ∧ FormOk w S x cs) : ∀ u ∈ css.flatten, u.oneCell' = true := fun u hu => by
  obtain ⟨cs, hcs, hu⟩ := List.mem_flatten.1 hu
  obtain ⟨i, hi, rfl⟩ := List.mem_iff_getElem.1 hcs
  have hx := h i l[i] _ (List.getElem?_eq_getElem (by omega)) (List.getElem?_eq_getElem hi)
  generalize l[i] = f at hx
  obtain ⟨us, ps⟩ := f
  obtain ⟨_, _, v, e, hs⟩ := FormOk_us hx.2
  obtain ⟨a, c, rfl, _⟩ := hs.len
  rw [e] at hu
  exact List.all_eq_true.1 (formC_one (us := us) (v := .slice a ps.length c) rfl) u hu
theorem pickF_part {most : Bool} {l : List Fm} (h1 : l.length ≠ 1) (h : plainB l = false ∨ 2 ≤ (List.range 7).countP (usedI l)) : pickF most l = .mk zeroU [(most, l)] := by
  unfold pickF; rw [if_neg h1, if_pos h]
theorem pickF_some {most : Bool} {l : List Fm} {i : Nat} (h1 : l.length ≠ 1) (h : ¬ (plainB l = false ∨ 2 ≤ (List.range 7).countP (usedI l))) (hf : (List.range 7).find? (usedI l) = some i) :
    pickF most l = oneF ((i : Int) + 1) (bestQ (if most then 1 else -1) (l.map (·.u i))) := by
  unfold pickF; rw [if_neg h1, if_neg h, hf]
theorem pickF_none {most : Bool} {l : List Fm} (h1 : l.length ≠ 1) (h : ¬ (plainB l = false ∨ 2 ≤ (List.range 7).countP (usedI l))) (hf : (List.range 7).find? (usedI l) = none) :
    pickF most l = zeroF := by
  unfold pickF; rw [if_neg h1, if_neg h, hf]
/-- a slice of one part -/
theorem parts_of_row {W : World} {S : Nat → Prop} {g : Nat} {most : Bool} {a : Option Addr} {n c : Nat} {t : TypeId} {l : List Fm} (hr : W.row g = some (.cells #[.bool most, .slice a n c] t)) (hS : S g)
    (h : SlAt W S 15 (FormOk W S) (.slice a n c) l) : SlAt W S 2 (PartR (FormOk W S) W S) (.slice (some ⟨g, 0, none⟩) 1 1) [(most, l)] := by
  refine ⟨_, 1, rfl, by simp, by omega, .inr ⟨g, 0, rfl, hS, fun i x hx => ?_⟩⟩
  match i with
  | 0 =>
    obtain rfl : (most, l) = x := by simpa using hx
    exact ⟨[.bool most, .slice a n c], rfl, by unfold eltAt; rw [hr]; exact ⟨rfl, rfl⟩, _, rfl, h⟩
  | i + 1 => simp at hx
theorem forms_bd {w : World} {S : Nat → Prop} {v : Value} {l : List Fm} (h : SlAt w S 15 (FormOk w S) v l) : ∀ f ∈ l, f.us.length = 7 ∧ ∀ p ∈ f.us, I64p p := fun f hf => by
  obtain ⟨_, _, _, _, _, h⟩ := h
  rcases h with h | ⟨g, off, _, _, hcell⟩
  · rw [h] at hf; cases hf
  · obtain ⟨i, hi, rfl⟩ := List.mem_iff_getElem.1 hf
    obtain ⟨cs, _, _, hok⟩ := hcell i l[i] (by simp [hi])
    generalize l[i] = f at *
    obtain ⟨us, ps⟩ := f
    exact ⟨(FormOk_us hok).1, (FormOk_us hok).2.1⟩
end Go

/- WALK over norm: the least and the greatest of forms. No condition but that the forms stand in memory and are not too many. -/
namespace Go.Proofs.Ythmicnjigfcljaa
open Go.RowKit

/-- the first form of one -/
theorem slAt_one {w : World} {S : Nat → Prop} {f : Fm} {v : Value} (h : SlAt w S 15 (FormOk w S) v [f]) : ∃ g off cap us a n c ps, v = .slice (some ⟨g, off, none⟩) 1 cap ∧ 1 ≤ cap ∧ cap ≤ 9223372036854775807 ∧ f = .mk us ps ∧ n = ps.length ∧ us.length = 7 ∧ (∀ p ∈ us, I64p p) ∧
    g < w.heap.size ∧ segOk off 15 (w.row g) = true ∧ segV off 15 (w.row g) = .agg (formC us (.slice a n c)).toArray ∧ SlAt w S 2 (PartR (FormOk w S) w S) (.slice a n c) ps := by
  obtain ⟨a, cap, rfl, h2, h3, h4⟩ := h
  rcases h4 with h4 | ⟨g, off, rfl, hS, hc⟩
  · cases h4
  · obtain ⟨cs, e1, e2, e3⟩ := hc 0 f rfl
    simp only [Nat.zero_mul, Nat.add_zero] at e2
    obtain ⟨us, ps⟩ := f
    obtain ⟨k1, k2, v', rfl, k3⟩ := FormOk_us e3
    obtain ⟨a', c', rfl, _⟩ := k3.len
    have hlt := e2.lt
    unfold eltAt at e2
    rw [e1] at e2
    exact ⟨g, off, cap, us, a', ps.length, c', ps, rfl, h2, h3, rfl, rfl, k1, k2, hlt, e2.1, e2.2, k3⟩

set_option maxRecDepth 100000 in
set_option maxHeartbeats 4000000 in
theorem pick_one (most : Bool) (f : Fm) (v : Value) (w : World) (S : Nat → Prop) (hl : SlAt w S 15 (FormOk w S) v [f]) :
    Calls Try.prog 70 #[.bool most, v] w (FormP w S f) := by
  obtain ⟨g, off, cap, us, a, n, c, ps, rfl, hc1, hc2, rfl, hn, hu7, hub, hg, e3, e4, hsl⟩ := slAt_one hl
  have zg := lt_sz hg
  have HN := Lib.hid hn; have HU := Lib.hid hub; have HSL := Lib.hid hsl
  clear hl hn hub hsl hg
  go_enter Try.func70, Try.ntmps70
  go_wp2_with fail
  (with_reducible show bodyPost _ _ _ _ _ _); exact ret_30 rfl rfl (by simp [go_sem, hu7]) rfl ⟨a, c, (by simp [go_sem, hu7]; rw [HN.out]; rfl), (by repeat (with_reducible first | assumption | exact grA | apply grB | apply grC | apply grD | refine grE ?_ (by omega) _ | refine grF ?_ (by omega) _ _)), hu7, HU.out, HN.out ▸ HSL.out.grows (by repeat (with_reducible first | assumption | exact grA | apply grB | apply grC | apply grD | refine grE ?_ (by omega) _ | refine grF ?_ (by omega) _ _)) (fun x _ cs ⟨v', e, h⟩ => ⟨v', e, h.grows (by repeat (with_reducible first | assumption | exact grA | apply grB | apply grC | apply grD | refine grE ?_ (by omega) _ | refine grF ?_ (by omega) _ _)) (fun f _ cs hf => hf.grows (by repeat (with_reducible first | assumption | exact grA | apply grB | apply grC | apply grD | refine grE ?_ (by omega) _ | refine grF ?_ (by omega) _ _)))⟩)⟩

set_option maxRecDepth 100000 in
set_option maxHeartbeats 4000000 in
theorem pick_many (most : Bool) (l : List Fm) (v : Value) (w : World) (S : Nat → Prop) (hS : ∀ g, w.heap.size ≤ g → S g) (hl : SlAt w S 15 (FormOk w S) v l) (hlen : l.length ≤ 4194304) (h1 : l.length ≠ 1) :
    Calls Try.prog 70 #[.bool most, v] w (FormP w S (pickF most l)) := by
  have HF := Lib.hid (forms_bd hl)
  obtain ⟨a, cap, rfl, hlc, hc, hE⟩ := hl
  have HE := Lib.hid hE; have HS := Lib.hid hS; clear hE hS
  have hn1 : (l.length == 1) = false := by simpa using h1
  have hn2 : ((l.length : Int) == 1) = false := by rw [beq_eq_false_iff_ne]; omega
  have HN1 := Lib.hid h1
  clear h1
  go_enter Try.func70, Try.ntmps70
  go_wp2_with fail
  go_loopg [5, 6, 24] l.length (fun gn v5 v6 v24 wj => ∃ (k used : Nat) (pl : Bool), Hid (gn + k = l.length) ∧ k ≤ l.length ∧ v24 = .int .i64 k ∧ v5 = .int .i64 used ∧ v6 = .bool pl ∧ Hid (used = mskN (usedI (l.take k)) 7) ∧ Hid (pl = plainB (l.take k)) ∧ w.grows wj ∧ wj.row w.heap.size = some (.cells (formC (zs 0) (.slice none 0 0)).toArray 30))
  case atStart => exact ⟨0, 0, true, rfl, Nat.zero_le _, rfl, rfl, rfl, Lib.hid (by rw [List.take_zero]; decide), rfl, (by repeat (with_reducible first | assumption | exact grA | apply grB | apply grC | apply grD | refine grE ?_ (by omega) _ | refine grF ?_ (by omega) _ _)), by simp [go_sem]; rfl⟩
  case round =>
    obtain ⟨k, used, pl, HK, hk, rfl, rfl, rfl, HU, HPL, hg, hx⟩ := hrel
    have z1 := row_sz' hx
    by_cases hlt : k < l.length
    · rcases HE.out with h | ⟨g, off, rfl, hSg, hcell⟩
      · rw [h] at hlt; cases hlt
      obtain ⟨cs', hl15, hel, hok⟩ := hcell k l[k] (by simp [hlt])
      have he := hel.grows hg
      unfold eltAt at he
      rw [hl15] at he
      have zr := lt_sz (hel.grows hg).lt
      have e3 : segOk (off + k * 15) 15 (wr.row g) = true := he.1
      have e4 : segV (off + k * 15) 15 (wr.row g) = .agg cs'.toArray := he.2
      have hsn1 := fun i => usedI_snoc (l.take k) l[k] i
      have hsn2 := plainB_snoc (l.take k) l[k]
      rw [← List.take_succ_eq_append_getElem hlt] at hsn1 hsn2
      generalize l[k] = f at *
      obtain ⟨us, ps⟩ := f
      obtain ⟨hu7, hub, v', rfl, hps'⟩ := FormOk_us hok
      obtain ⟨a', c', rfl, hnn1, hnn2⟩ := hps'.len
      have hnu : used ||| mskN (fun i => uGet us i != (0, 1)) 7 = mskN (usedI (l.take (k + 1))) 7 := by
        rw [HU.out, msk_or]; exact msk_congr fun i _ => (hsn1 i).symm
      have hnp : (pl && (ps.length == 0)) = plainB (l.take (k + 1)) := by rw [hsn2, HPL.out]; rfl
      have hu128 : used < 128 := by rw [HU.out]; exact mskN_lt _ 7
      have HNU := Lib.hid hnu; have HNP := Lib.hid hnp; have HU8 := Lib.hid hu128
      clear hel he hok hcell hps' hl15 hsn1 hsn2 hnu hnp hu128 HU HPL
      go_upto_region 7 with fail
      go_cut [6] (fun v6 wx => v6 = .bool (pl && (ps.length == 0)) ∧ w.grows wx ∧ wx.row w.heap.size = some (.cells (formC (zs 0) (.slice none 0 0)).toArray 30) ∧ wx.row wr.heap.size = some (.cells (formC us (.slice a' ps.length c')).toArray 30))
      case first =>
        cases pl
        · go_wp2_with fail
          go_meet
          exact ⟨rfl, (by repeat (with_reducible first | assumption | exact grA | apply grB | apply grC | apply grD | refine grE ?_ (by omega) _ | refine grF ?_ (by omega) _ _)), by simp [go_sem, hx, z1], by simp [go_sem, hx, z1]⟩
        · by_cases hp0 : ps.length = 0
          · have hp1 : (ps.length == 0) = true := by simpa using hp0
            have hp2 : ((ps.length : Int) == 0) = true := by rw [beq_iff_eq]; omega
            clear hp0
            go_wp2_with fail
            go_meet
            exact ⟨by simp [hp1], (by repeat (with_reducible first | assumption | exact grA | apply grB | apply grC | apply grD | refine grE ?_ (by omega) _ | refine grF ?_ (by omega) _ _)), by simp [go_sem, hx, z1], by simp [go_sem, hx, z1]⟩
          · have hp1 : (ps.length == 0) = false := by simpa using hp0
            have hp2 : ((ps.length : Int) == 0) = false := by rw [beq_eq_false_iff_ne]; omega
            clear hp0
            go_wp2_with fail
            go_meet
            exact ⟨by simp [hp1], (by repeat (with_reducible first | assumption | exact grA | apply grB | apply grC | apply grD | refine grE ?_ (by omega) _ | refine grF ?_ (by omega) _ _)), by simp [go_sem, hx, z1], by simp [go_sem, hx, z1]⟩
      case rest =>
        obtain ⟨rfl, hg2, hx2, hb⟩ := hcut
        have z2 := row_sz' hx2; have z3 := row_sz' hb
        have hbw := z1.1
        generalize wr.heap.size = b at *
        clear hg hx z1 zr e3 e4
        generalize (pl && (ps.length == 0)) = pl' at *
        go_wp2_with fail
        go_loopg [5, 37] 7 (fun gn v5 v37 wj => ∃ (i u : Nat), Hid (gn + i = 7) ∧ i ≤ 7 ∧ v37 = .int .i64 i ∧ v5 = .int .i64 u ∧ Hid (u < 128) ∧ Hid (u ||| 0 = used ||| mskN (fun i => uGet us i != (0, 1)) i) ∧ w.grows wj ∧ wj.row w.heap.size = some (.cells (formC (zs 0) (.slice none 0 0)).toArray 30))
        case atStart => exact ⟨0, used, rfl, by omega, rfl, rfl, HU8, rfl, (by repeat (with_reducible first | assumption | exact grA | apply grB | apply grC | apply grD | refine grE ?_ (by omega) _ | refine grF ?_ (by omega) _ _)), by simp [go_sem, hx2]⟩
        case round =>
          clear hg2 hx2 hb z2 z3
          obtain ⟨i, u, HK2, hi, rfl, rfl, HB, HM, hg2, hx2⟩ := hrel
          have z2 := row_sz' hx2
          by_cases hi7 : i < 7
          · have hmi : mskN (fun i => uGet us i != (0, 1)) (i + 1) = mskN (fun i => uGet us i != (0, 1)) i ||| (if (uGet us i != (0, 1)) = true then 2 ^ i else 0) := rfl
            have HMI := Lib.hid hmi; clear hmi
            generalize hq : uGet us i = q at *
            have hq1 : (uGet us i).1 = q.1 := by rw [hq]
            have hq2 : (uGet us i).2 = q.2 := by rw [hq]
            obtain ⟨q1, q2⟩ := q
            by_cases hz : q1 = 0 ∧ q2 = 1
            · have hb1 : (q1 == 0) = true := by simpa using hz.1
              have hb2 : (q2 == 1) = true := by simpa using hz.2
              have hm2 : u ||| 0 = used ||| mskN (fun i => uGet us i != (0, 1)) (i + 1) := by
                rw [HMI.out, hz.1, hz.2, if_neg (by simp), Nat.or_zero (mskN (fun i => uGet us i != (0, 1)) i)]; exact HM.out
              have HM2 := Lib.hid hm2
              clear hz hm2 hq
              go_wp2_with fail
              refine wp_region_plus_lit (by kernel_rfl) (by kernel_rfl) ?_
              repeat (go_big_quiet_step ((go_at_call 65; (with_reducible exact Calls.plus_of (nothing_any _)))))
              (refine wpQuiet_nil ?_; intro _ hw'; obtain ⟨xq, hw''⟩ := hw'; subst hw'')
              go_wp2_with fail
              go_roundg (7 - (i + 1))
              case rel => exact ⟨i + 1, u, Lib.hid (by omega), by omega, by go_num, rfl, HB, HM2, (by repeat (with_reducible first | assumption | exact grA | apply grB | apply grC | apply grD | refine grE ?_ (by omega) _ | refine grF ?_ (by omega) _ _)), by simp [go_sem, hx2, z2]⟩
              case measure => have := HK2.out; omega
            · have hm2 : (u ||| 2 ^ i) ||| 0 = used ||| mskN (fun i => uGet us i != (0, 1)) (i + 1) := by
                rw [HMI.out, if_pos (by simpa using hz), ← Nat.or_assoc, ← HM.out, Nat.or_zero, Nat.or_zero]
              have HM2 := Lib.hid hm2
              have hbit := bits_or_bit HB.out hi7
              have h128 : u ||| 2 ^ i < 128 := Nat.or_lt_two_pow (n := 7) HB.out (Nat.pow_lt_pow_right (by omega) hi7)
              have H8 := Lib.hid h128; have HBT := Lib.hid hbit
              clear hm2 h128 hbit hq
              by_cases hz1 : q1 = 0
              · have hb1 : (q1 == 0) = true := by simpa using hz1
                have hb2 : (q2 == 1) = false := by simp; intro h; exact hz ⟨hz1, h⟩
                clear hz hz1
                go_wp2_with fail
                refine wp_region_plus_lit (by kernel_rfl) (by kernel_rfl) ?_
                repeat (go_big_quiet_step ((go_at_call 65; (with_reducible exact Calls.plus_of (nothing_any _)))))
                (refine wpQuiet_nil ?_; intro _ hw'; obtain ⟨xq, hw''⟩ := hw'; subst hw'')
                go_wp2_with fail
                go_roundg (7 - (i + 1))
                case rel => exact ⟨i + 1, u ||| 2 ^ i, Lib.hid (by omega), by omega, by go_num, by rw [HBT.out], H8, HM2, (by repeat (with_reducible first | assumption | exact grA | apply grB | apply grC | apply grD | refine grE ?_ (by omega) _ | refine grF ?_ (by omega) _ _)), by simp [go_sem, hx2, z2]⟩
                case measure => have := HK2.out; omega
              · have hb1 : (q1 == 0) = false := by simpa using hz1
                clear hz hz1
                go_wp2_with fail
                refine wp_region_plus_lit (by kernel_rfl) (by kernel_rfl) ?_
                repeat (go_big_quiet_step ((go_at_call 65; (with_reducible exact Calls.plus_of (nothing_any _)))))
                (refine wpQuiet_nil ?_; intro _ hw'; obtain ⟨xq, hw''⟩ := hw'; subst hw'')
                go_wp2_with fail
                go_roundg (7 - (i + 1))
                case rel => exact ⟨i + 1, u ||| 2 ^ i, Lib.hid (by omega), by omega, by go_num, by rw [HBT.out], H8, HM2, (by repeat (with_reducible first | assumption | exact grA | apply grB | apply grC | apply grD | refine grE ?_ (by omega) _ | refine grF ?_ (by omega) _ _)), by simp [go_sem, hx2, z2]⟩
                case measure => have := HK2.out; omega
          · obtain rfl : i = 7 := by omega
            go_wp2_with fail
            go_roundg (l.length - (k + 1))
            case rel => exact ⟨k + 1, u, pl', Lib.hid (by omega), by omega, by go_num, rfl, rfl, Lib.hid (by rw [← HNU.out, ← HM.out, Nat.or_zero]), HNP, (by repeat (with_reducible first | assumption | exact grA | apply grB | apply grC | apply grD | refine grE ?_ (by omega) _ | refine grF ?_ (by omega) _ _)), by simp [go_sem, hx2, z2]⟩
            case measure => have := HK.out; omega
    · obtain rfl : k = l.length := by omega
      have hU := HU.out; have hP := HPL.out
      rw [List.take_length] at hU hP
      have hu128 : used < 128 := by rw [hU]; exact mskN_lt _ 7
      have hband := bits_and_pop hu128
      have hpop : popN used = (List.range 7).countP (usedI l) := by rw [hU, popN_msk]
      have htest : ∀ i, i < 7 → used.testBit i = usedI l i := fun i hi => by rw [hU, mskN_test]; simp [hi]
      have hfind : (List.range 7).find? (fun i => used.testBit i) = (List.range 7).find? (usedI l) := by rw [hU, find_msk]
      have HT := Lib.hid htest; have HFD := Lib.hid hfind
      clear hU HU HPL htest hfind HK hk
      by_cases hpart : pl = false ∨ 2 ≤ popN used
      · have hpf : pickF most l = .mk zeroU [(most, l)] := pickF_part HN1.out (by rw [← hP, ← hpop]; exact hpart)
        have HPF := Lib.hid hpf
        have hE := HE.out
        have hsl0 : SlAt w S 15 (FormOk w S) (.slice a l.length cap) l := ⟨a, cap, rfl, hlc, hc, hE⟩
        obtain ⟨_, css, k1, k2, k3, k4⟩ := hsl0.cells (by omega)
        have k4' : ∀ W, w.grows W → (l.length = 0 ∨ ∃ ad, a = some ad ∧ ∀ j u, css.flatten[j]? = some u → W.cell? (ad.add j) = some u) := fun W hW => by
          rcases k4 with h | ⟨ad, e, h⟩
          · exact .inl h
          · exact .inr ⟨ad, e, fun j u hj => hW.cell_eq (h j u hj)⟩
        have h1 := forms_one k1 k2
        have K1 := Lib.hid k1; have K2 := Lib.hid k2; have K3 := Lib.hid k3; have K4 := Lib.hid k4'; have H1 := Lib.hid h1
        clear hsl0 k1 k2 k3 k4 k4' h1 hE hpf hpop hP HE
        by_cases hpl : pl = false
        · subst hpl
          clear hband hpart hu128
          go_wp2_with fail
          refine (zero_any _).mono ?_
          rintro e w1 ⟨rfl, x1, rfl⟩
          generalize hob : wr.heap.size + x1.bs.size = ob
          have hob1 : wr.heap.size ≤ ob := by omega
          have ne1 : (w.heap.size = ob) = False := by apply eq_false; have := z1.1; omega
          have ne2 : (ob = w.heap.size) = False := by apply eq_false; have := z1.1; omega
          have ne3 : w.heap.size < ob := by have := z1.1; omega
          go_wp2_with (first | ((at_builtin; refine wpList_appS w (ob + 1) rfl (.const (.slice none 0 0)) (.tmp 61) _ rfl 30 (.agg #[.int .i64 0, .int .i64 0, .int .i64 0, .int .i64 0, .int .i64 0, .int .i64 0, .int .i64 0, .int .i64 0, .int .i64 0, .int .i64 0, .int .i64 0, .int .i64 0, .int .i64 0, .int .i64 0, .slice none 0 0]) 15 136 Try.underlying49 (by kernel_rfl) rfl (by omega) (by omega) _ 0 _ rfl (World.ownsRow_nil _ _ _ _) _ l.length _ css.flatten rfl K3.out (K4.out _ (by repeat (with_reducible first | assumption | exact grA | apply grB | apply grC | apply grD | refine grE ?_ (by omega) _ | refine grF ?_ (by omega) _ _))) H1.out (by omega) (by repeat (with_reducible first | assumption | exact grA | apply grB | apply grC | apply grD | refine grE ?_ (by omega) _ | refine grF ?_ (by omega) _ _)) (by omega) (by simp; omega) ?_; intro v' w' hg' HO' HR' HG' HA'); obtain ⟨a2, c2, rfl⟩ := own_slice HO'.out; have hy' : w'.row ob = some (.cells (formC zeroU (.slice none 0 0)).toArray 30) := (HR'.out _ (by omega)).trans (by simp [go_sem, hob, ne1, ne2]); have hx' : w'.row w.heap.size = some (.cells (formC (zs 0) (.slice none 0 0)).toArray 30) := (HR'.out _ (by omega)).trans (by simp [go_sem, hob, hx, z1, ne1, ne2]); have zy' := row_sz' hy'; have zx' := row_sz' hx'))
          have hO := HO'.out
          rw [Nat.zero_add, List.nil_append] at hO
          have hown : OwnAt w' (ob + 1) 30 15 (FormOk w S) (.slice a2 l.length c2) l := ⟨css, K1.out, K2.out, hO⟩
          have hsl := hown.slAt (S := fun g => ob + 1 ≤ g) (by omega) (fun g hg0 => (hO.lt g hg0).1)
          have HSL := Lib.hid hsl
          clear hown hsl hO
          (with_reducible show bodyPost _ _ _ _ _ _); rw [HPF.out]; exact ret_30 rfl rfl (by simp [go_sem, hx', hy', zx', zy', ne1, ne2]) rfl ⟨some ⟨w'.heap.size, 0, none⟩, 1, (by simp [go_sem, hx', hy', zx', zy', ne1, ne2, Fm.us, Fm.ps]), (by repeat (with_reducible first | assumption | exact grA | apply grB | apply grC | apply grD | refine grE ?_ (by omega) _ | refine grF ?_ (by omega) _ _)), zeroU_len, zeroU_bd, parts_of_row (t := 76) (by simp [go_sem, hx', hy', zx', zy', ne1, ne2]; done) (HS.out _ (by have := zx'.1; omega)) (HSL.out.keep (fun g h1 h2 => ⟨by
            have e1 : (g = w.heap.size) = False := by apply eq_false; omega
            have e2 : (g = ob) = False := by apply eq_false; omega
            have e3 : (g = w'.heap.size) = False := by apply eq_false; omega
            simp [go_sem, e1, e2, e3], HS.out g (by omega)⟩) (fun x _ cs h => h.grows (by repeat (with_reducible first | assumption | exact grA | apply grB | apply grC | apply grD | refine grE ?_ (by omega) _ | refine grF ?_ (by omega) _ _))))⟩
        · obtain rfl : pl = true := by simpa using hpl
          have hge : 2 ≤ popN used := by rcases hpart with h | h; cases h; exact h
          have hband' : (bits .and .i64 (used : Int) ((used : Int) - 1) == 0) = false := by rw [hband]; simp; omega
          clear hband hpart hge hpl
          go_wp2_with fail
          refine (zero_any _).mono ?_
          rintro e w1 ⟨rfl, x1, rfl⟩
          generalize hob : wr.heap.size + x1.bs.size = ob
          have hob1 : wr.heap.size ≤ ob := by omega
          have ne1 : (w.heap.size = ob) = False := by apply eq_false; have := z1.1; omega
          have ne2 : (ob = w.heap.size) = False := by apply eq_false; have := z1.1; omega
          have ne3 : w.heap.size < ob := by have := z1.1; omega
          go_wp2_with (first | ((at_builtin; refine wpList_appS w (ob + 1) rfl (.const (.slice none 0 0)) (.tmp 61) _ rfl 30 (.agg #[.int .i64 0, .int .i64 0, .int .i64 0, .int .i64 0, .int .i64 0, .int .i64 0, .int .i64 0, .int .i64 0, .int .i64 0, .int .i64 0, .int .i64 0, .int .i64 0, .int .i64 0, .int .i64 0, .slice none 0 0]) 15 136 Try.underlying49 (by kernel_rfl) rfl (by omega) (by omega) _ 0 _ rfl (World.ownsRow_nil _ _ _ _) _ l.length _ css.flatten rfl K3.out (K4.out _ (by repeat (with_reducible first | assumption | exact grA | apply grB | apply grC | apply grD | refine grE ?_ (by omega) _ | refine grF ?_ (by omega) _ _))) H1.out (by omega) (by repeat (with_reducible first | assumption | exact grA | apply grB | apply grC | apply grD | refine grE ?_ (by omega) _ | refine grF ?_ (by omega) _ _)) (by omega) (by simp; omega) ?_; intro v' w' hg' HO' HR' HG' HA'); obtain ⟨a2, c2, rfl⟩ := own_slice HO'.out; have hy' : w'.row ob = some (.cells (formC zeroU (.slice none 0 0)).toArray 30) := (HR'.out _ (by omega)).trans (by simp [go_sem, hob, ne1, ne2]); have hx' : w'.row w.heap.size = some (.cells (formC (zs 0) (.slice none 0 0)).toArray 30) := (HR'.out _ (by omega)).trans (by simp [go_sem, hob, hx, z1, ne1, ne2]); have zy' := row_sz' hy'; have zx' := row_sz' hx'))
          have hO := HO'.out
          rw [Nat.zero_add, List.nil_append] at hO
          have hown : OwnAt w' (ob + 1) 30 15 (FormOk w S) (.slice a2 l.length c2) l := ⟨css, K1.out, K2.out, hO⟩
          have hsl := hown.slAt (S := fun g => ob + 1 ≤ g) (by omega) (fun g hg0 => (hO.lt g hg0).1)
          have HSL := Lib.hid hsl
          clear hown hsl hO
          (with_reducible show bodyPost _ _ _ _ _ _); rw [HPF.out]; exact ret_30 rfl rfl (by simp [go_sem, hx', hy', zx', zy', ne1, ne2]) rfl ⟨some ⟨w'.heap.size, 0, none⟩, 1, (by simp [go_sem, hx', hy', zx', zy', ne1, ne2, Fm.us, Fm.ps]), (by repeat (with_reducible first | assumption | exact grA | apply grB | apply grC | apply grD | refine grE ?_ (by omega) _ | refine grF ?_ (by omega) _ _)), zeroU_len, zeroU_bd, parts_of_row (t := 76) (by simp [go_sem, hx', hy', zx', zy', ne1, ne2]; done) (HS.out _ (by have := zx'.1; omega)) (HSL.out.keep (fun g h1 h2 => ⟨by
            have e1 : (g = w.heap.size) = False := by apply eq_false; omega
            have e2 : (g = ob) = False := by apply eq_false; omega
            have e3 : (g = w'.heap.size) = False := by apply eq_false; omega
            simp [go_sem, e1, e2, e3], HS.out g (by omega)⟩) (fun x _ cs h => h.grows (by repeat (with_reducible first | assumption | exact grA | apply grB | apply grC | apply grD | refine grE ?_ (by omega) _ | refine grF ?_ (by omega) _ _))))⟩
      · have hpl : pl = true := by cases pl; exact absurd (.inl rfl) hpart; rfl
        have hlt2 : popN used < 2 := by omega
        subst hpl
        have hband' : (bits .and .i64 (used : Int) ((used : Int) - 1) == 0) = true := by rw [hband]; simpa using hlt2
        have hbandn : (bits .and .i64 (used : Int) ((used : Int) - 1) != 0) = false := by simp only [bne, hband', Bool.not_true]
        have hnp : ¬ (plainB l = false ∨ 2 ≤ (List.range 7).countP (usedI l)) := by rw [← hP, ← hpop]; exact hpart
        have HNP := Lib.hid hnp; have HL2 := Lib.hid hlt2
        clear hnp hlt2 hband hpart hpop hP
        have hd0 : used < 128 := hu128
        go_wp2_with fail
        go_loopg [67] 7 (fun gn v67 wj => ∃ i : Nat, Hid (gn + i = 7) ∧ i ≤ 7 ∧ v67 = .int .i64 i ∧ Hid (∀ j, j < i → used.testBit j = false) ∧ w.grows wj ∧ wj.row w.heap.size = some (.cells (formC (zs 0) (.slice none 0 0)).toArray 30))
        case atStart => exact ⟨0, rfl, by omega, rfl, Lib.hid (fun j h => by omega), (by repeat (with_reducible first | assumption | exact grA | apply grB | apply grC | apply grD | refine grE ?_ (by omega) _ | refine grF ?_ (by omega) _ _)), by simp [go_sem, hx]⟩
        case round =>
          clear hx z1 hg hband' hbandn
          obtain ⟨i, HK2, hi, rfl, HBT, hg, hx⟩ := hrel
          have z1 := row_sz' hx
          by_cases hi7 : i < 7
          · have hd7 : decide ((i : Int) < 7) = true := by rw [decide_eq_true_eq]; omega
            by_cases hb : used.testBit i = true
            · have hue : used = 2 ^ i := pow_of_bit hd0 hi7 HL2.out hb
              have heq : ((used : Int) == wrap64 (2 ^ i)) = true := by rw [wrap_pow hi7, beq_iff_eq]; omega
              have heqn : ((used : Int) != wrap64 (2 ^ i)) = false := by simp only [bne, heq, Bool.not_true]
              have hff : (List.range 7).find? (usedI l) = some i := by
                rw [← HFD.out, List.find?_range_eq_some]
                exact ⟨hb, List.mem_range.2 hi7, fun j hj => by rw [HBT.out j hj]; rfl⟩
              have HFF := Lib.hid hff
              clear hue hff HBT hb HFD HT
              go_wp2_with fail
              clear heq heqn hd7
              go_loopg [13, 76] l.length (fun gn v13 v76 wj => ∃ j : Nat, Hid (gn + j = l.length) ∧ j ≤ l.length ∧ v76 = .int .i64 j ∧ Hid (wj.ownsRow (w.heap.size + 1) 23 2 v13 j (((l.take j).map (·.u i)).flatMap ratL)) ∧ w.grows wj ∧ wj.row w.heap.size = some (.cells (formC (zs 0) (.slice none 0 0)).toArray 30))
              case atStart => exact ⟨0, rfl, Nat.zero_le _, rfl, World.ownsRow_nil _ _ _ _, (by repeat (with_reducible first | assumption | exact grA | apply grB | apply grC | apply grD | refine grE ?_ (by omega) _ | refine grF ?_ (by omega) _ _)), by simp [go_sem, hx]⟩
              case round =>
                obtain ⟨j, HK3, hj, rfl, HO, hg2, hx2⟩ := hrel
                clear hx z1 hg
                have z2 := row_sz' hx2
                by_cases hlt : j < l.length
                · rcases HE.out with h | ⟨g, off, rfl, hSg, hcell⟩
                  · rw [h] at hlt; cases hlt
                  obtain ⟨cs', hl15, hel, hok⟩ := hcell j l[j] (by simp [hlt])
                  have he := hel.grows hg2
                  unfold eltAt at he
                  rw [hl15] at he
                  have zr := lt_sz (hel.grows hg2).lt
                  have e3 : segOk (off + j * 15) 15 (wr.row g) = true := he.1
                  have e4 : segV (off + j * 15) 15 (wr.row g) = .agg cs'.toArray := he.2
                  have hnx : ((l.take (j + 1)).map (·.u i)).flatMap ratL = ((l.take j).map (·.u i)).flatMap ratL ++ ratL (l[j].u i) := by
                    rw [List.take_succ_eq_append_getElem hlt, List.map_append, List.flatMap_append]; simp
                  generalize l[j] = f at *
                  obtain ⟨us, ps⟩ := f
                  obtain ⟨hu7, hub, v', rfl, hps'⟩ := FormOk_us hok
                  obtain ⟨a', c', rfl, hnn1, hnn2⟩ := hps'.len
                  have hui : Fm.u (.mk us ps) i = us[i]'(by omega) := by
                    show us.getD i (0, 1) = _
                    rw [List.getD_eq_getElem?_getD, List.getElem?_eq_getElem (by omega)]; rfl
                  have hget : segV (i * 2) 2 (some (.cells (formC us (.slice a' ps.length c')).toArray 30)) = ratV (us[i]'(by omega)) := formC_get (by omega)
                  rw [hui] at hnx
                  generalize us[i]'(by omega) = q at *
                  obtain ⟨q1, q2⟩ := q
                  have hi2 : i * 2 + 2 ≤ 15 := by omega
                  have HNX := Lib.hid hnx
                  clear hnx hui hel he hok hcell hps' hl15
                  go_wp2_with (first | (at_builtin; refine wpList_app w (w.heap.size + 1) rfl (.tmp 80) (.tmp 85) _ rfl 23 (.agg #[.int .i64 0, .int .i64 0]) 2 16 Try.underlying85 (by kernel_rfl) rfl (by omega) (by omega) _ j _ rfl (HO.out.grows (by repeat (with_reducible first | assumption | exact grA | apply grB | apply grC | apply grD | refine grE ?_ (by omega) _ | refine grF ?_ (by omega) _ _))) _ 1 _ [.int .i64 q1, .int .i64 q2] rfl rfl (cells_of_row (e := 23) (fr := (0, 0)) (by simp [go_sem])) (by simp [Value.oneCell']) (by omega) (by repeat (with_reducible first | assumption | exact grA | apply grB | apply grC | apply grD | refine grE ?_ (by omega) _ | refine grF ?_ (by omega) _ _)) (by omega) (by simp; omega) ?_; intro v' w' hg' HO' HR' HG' HA'))
                  go_wp2_with fail
                  go_roundg (l.length - (j + 1))
                  case rel => exact ⟨j + 1, Lib.hid (by omega), by omega, by go_num, (by rw [HNX.out]; exact HO'), hg', (HR'.out _ (by omega)).trans (by simp [go_sem, hx2, z2])⟩
                  case measure => have := HK3.out; omega
                · obtain rfl : j = l.length := by omega
                  have hO := HO.out
                  rw [List.take_length] at hO
                  have hO' : wr.ownsRow (w.heap.size + 1) 23 2 u13 (l.map (·.u i)).length ((l.map (·.u i)).flatMap ratL) := by rw [List.length_map]; exact hO
                  have hIR : ∀ p ∈ l.map (·.u i), I64p p := fun p hp => by
                    obtain ⟨f, hf, rfl⟩ := List.mem_map.1 hp
                    exact Fm.u_bd (HF.out f hf).2 i
                  have hR := RatsAt_of_owns hO' hIR
                  cases most
                  · skip
                    have c0 := fun W (hW : wr.grows W) => ratLeast_any u13 _ W (hR.grows hW)
                    have hpf : pickF false l = oneF ((i : Int) + 1) (bestQ (-1) (l.map (·.u i))) := pickF_some HN1.out HNP.out HFF.out
                    have hbd : I64p (bestQ (-1) (l.map (·.u i))) := bestQ_bd hIR
                    generalize bestQ (-1) (l.map (·.u i)) = R at *
                    obtain ⟨R1, R2⟩ := R
                    have o1 := fun W => one_any ((i : Int) + 1) R1 R2 W (by unfold I64; omega) hbd.1 hbd.2
                    have hb2 : ∀ p ∈ oneU ((i : Int) + 1) (R1, R2), I64p p := oneU_bd hbd
                    have C1 := Lib.hid c0; have O1 := Lib.hid o1; have HPF := Lib.hid hpf; have HB2 := Lib.hid hb2
                    clear c0 o1 hR hO hO' HO hbd hpf hb2 hIR
                    go_wp2_with (first | (go_at_call 88; (with_reducible refine (C1.out _ (by repeat (with_reducible first | assumption | exact grA | apply grB | apply grC | apply grD | refine grE ?_ (by omega) _ | refine grF ?_ (by omega) _ _))).mono ?_); rintro e w1 ⟨rfl, x1, rfl⟩) | (go_at_call 32; (with_reducible refine (O1.out _).mono ?_); rintro e w1 ⟨rfl, x1, rfl⟩))
                    (with_reducible show bodyPost _ _ _ _ _ _); rw [HPF.out]; exact ret_30 rfl rfl (by simp [go_sem, hx2, z2]) rfl ⟨none, 0, (by simp [go_sem, hx2, z2, oneF, Fm.us, Fm.ps]), (by repeat (with_reducible first | assumption | exact grA | apply grB | apply grC | apply grD | refine grE ?_ (by omega) _ | refine grF ?_ (by omega) _ _)), oneU_len _ _, HB2.out, SlAt_nil _ _ _ _⟩
                  · skip
                    have c0 := fun W (hW : wr.grows W) => ratMost_any u13 _ W (hR.grows hW)
                    have hpf : pickF true l = oneF ((i : Int) + 1) (bestQ 1 (l.map (·.u i))) := pickF_some HN1.out HNP.out HFF.out
                    have hbd : I64p (bestQ 1 (l.map (·.u i))) := bestQ_bd hIR
                    generalize bestQ 1 (l.map (·.u i)) = R at *
                    obtain ⟨R1, R2⟩ := R
                    have o1 := fun W => one_any ((i : Int) + 1) R1 R2 W (by unfold I64; omega) hbd.1 hbd.2
                    have hb2 : ∀ p ∈ oneU ((i : Int) + 1) (R1, R2), I64p p := oneU_bd hbd
                    have C1 := Lib.hid c0; have O1 := Lib.hid o1; have HPF := Lib.hid hpf; have HB2 := Lib.hid hb2
                    clear c0 o1 hR hO hO' HO hbd hpf hb2 hIR
                    go_wp2_with (first | (go_at_call 89; (with_reducible refine (C1.out _ (by repeat (with_reducible first | assumption | exact grA | apply grB | apply grC | apply grD | refine grE ?_ (by omega) _ | refine grF ?_ (by omega) _ _))).mono ?_); rintro e w1 ⟨rfl, x1, rfl⟩) | (go_at_call 32; (with_reducible refine (O1.out _).mono ?_); rintro e w1 ⟨rfl, x1, rfl⟩))
                    (with_reducible show bodyPost _ _ _ _ _ _); rw [HPF.out]; exact ret_30 rfl rfl (by simp [go_sem, hx2, z2]) rfl ⟨none, 0, (by simp [go_sem, hx2, z2, oneF, Fm.us, Fm.ps]), (by repeat (with_reducible first | assumption | exact grA | apply grB | apply grC | apply grD | refine grE ?_ (by omega) _ | refine grF ?_ (by omega) _ _)), oneU_len _ _, HB2.out, SlAt_nil _ _ _ _⟩
            · have hbf : used.testBit i = false := by simpa using hb
              have hne := ne_pow_of_bit hbf
              have heq : ((used : Int) == wrap64 (2 ^ i)) = false := by rw [wrap_pow hi7, beq_eq_false_iff_ne]; omega
              have heqn : ((used : Int) != wrap64 (2 ^ i)) = true := by simp only [bne, heq, Bool.not_false]
              have hb2 : ∀ j, j < i + 1 → used.testBit j = false := fun j hj => by
                rcases (by omega : j < i ∨ j = i) with h | rfl
                · exact HBT.out j h
                · exact hbf
              have HB2 := Lib.hid hb2
              clear hb hbf hne hb2
              go_wp2_with fail
              go_roundg (7 - (i + 1))
              case rel => exact ⟨i + 1, Lib.hid (by omega), by omega, by go_num, HB2, (by repeat (with_reducible first | assumption | exact grA | apply grB | apply grC | apply grD | refine grE ?_ (by omega) _ | refine grF ?_ (by omega) _ _)), by simp [go_sem, hx, z1]⟩
              case measure => have := HK2.out; omega
          · obtain rfl : i = 7 := by omega
            have hff : (List.range 7).find? (usedI l) = none := by
              rw [← HFD.out, List.find?_range_eq_none]
              exact fun j hj => by rw [HBT.out j hj]; rfl
            have hpf : pickF most l = zeroF := pickF_none HN1.out HNP.out hff
            have HPF := Lib.hid hpf
            clear hff hpf HBT HFD HT
            go_wp2_with (first | (go_at_call 31; (with_reducible refine (zero_any _).mono ?_); rintro e w1 ⟨rfl, x1, rfl⟩))
            (with_reducible show bodyPost _ _ _ _ _ _); rw [HPF.out]; exact ret_30 rfl rfl (by simp [go_sem, hx, z1]) rfl ⟨none, 0, (by simp [go_sem, hx, z1, zeroF, Fm.us, Fm.ps]), (by repeat (with_reducible first | assumption | exact grA | apply grB | apply grC | apply grD | refine grE ?_ (by omega) _ | refine grF ?_ (by omega) _ _)), zeroU_len, zeroU_bd, SlAt_nil _ _ _ _⟩

theorem pick_any (most : Bool) (l : List Fm) (v : Value) (w : World) (S : Nat → Prop) (hS : ∀ g, w.heap.size ≤ g → S g) (hl : SlAt w S 15 (FormOk w S) v l) (hlen : l.length ≤ 4194304) :
    Calls Try.prog 70 #[.bool most, v] w (FormP w S (pickF most l)) := by
  by_cases h : l.length = 1
  · obtain ⟨f, rfl⟩ := len_one h
    have e : pickF most [f] = f := rfl
    rw [e]; exact pick_one most f v w S hl
  · exact pick_many most l v w S hS hl hlen h

end Go.Proofs.Ythmicnjigfcljaa

/- PLAIN: multiples of forms: their units one by one; how many forms and parts there are. No condition; no program. -/
namespace Go
open Go.RowKit
/-- the first i units by the number -/
def scU (k : Int × Int) (us : List (Int × Int)) (i : Nat) : List (Int × Int) := (List.range 7).map fun j => if j < i then foldQ (1, 1) mulQ [uGet us j, k] else (0, 0)
@[go_sem] theorem scU_len (k : Int × Int) (us : List (Int × Int)) (i : Nat) : (scU k us i).length = 7 := by simp [scU]
theorem scU_all (k : Int × Int) {us : List (Int × Int)} (h : us.length = 7) : scU k us 7 = (plainS k us).us := by
  apply List.ext_getElem?
  intro j
  unfold scU plainS Fm.us
  by_cases hj : j < 7
  · simp only [List.getElem?_map, List.getElem?_range hj, Option.map_some, if_pos hj, List.getElem?_eq_getElem (show j < us.length by omega), uGet_eq (show j < us.length by omega)]
  · rw [List.getElem?_eq_none (by simp; omega), List.getElem?_eq_none (by simp; omega)]
theorem scU_set (k : Int × Int) (us : List (Int × Int)) {i : Nat} (h : i < 7) : (scU k us i).set i (foldQ (1, 1) mulQ [uGet us i, k]) = scU k us (i + 1) := by
  apply List.ext_getElem?
  intro j
  rw [List.getElem?_set]
  unfold scU
  by_cases hij : i = j
  · subst hij; simp [h]
  · rw [if_neg hij]
    by_cases hj : j < 7
    · have : (j < i + 1) = (j < i) := by apply propext; omega
      simp [hj, this]
    · simp [hj]
theorem uGet_bd {us : List (Int × Int)} (h : ∀ p ∈ us, I64p p) (i : Nat) : I64p (uGet us i) := by
  unfold uGet
  rw [List.getD_eq_getElem?_getD]
  cases hx : us[i]? with
  | none => simp [I64p, I64]
  | some p => exact h p (List.mem_of_getElem? hx)
theorem foldMul2_bd {p q : Int × Int} (hp : I64p p) (hq : I64p q) : I64p (foldQ (1, 1) mulQ [p, q]) :=
  foldQ_bd (fun p q => mulQ_bd p q) (by simp [I64p, I64]) fun x hx => by
    rcases List.mem_cons.1 hx with rfl | hx
    · exact hp
    · rw [List.mem_singleton.1 hx]; exact hq
theorem plainS_bd {k : Int × Int} {us : List (Int × Int)} (h : ∀ p ∈ us, I64p p) (hk : I64p k) : ∀ p ∈ (plainS k us).us, I64p p := fun p hp => by
  obtain ⟨q, hq, rfl⟩ := List.mem_map.1 hp
  exact foldMul2_bd (h q hq) hk
/-! sizes -/
theorem szF_pos : ∀ f, 1 ≤ szF f
  | .mk us ps => by rw [szF]; omega
theorem szM_sum : ∀ l, szM l = (l.map szF).sum
  | [] => by rw [szM]; rfl
  | f :: l => by rw [szM, szM_sum l]; rfl
theorem szP_sum : ∀ ps, szP ps = (ps.map szQ).sum
  | [] => by rw [szP]; rfl
  | p :: ps => by rw [szP, szP_sum ps]; rfl
theorem szQ_eq (b : Bool) (l : List Fm) : szQ (b, l) = 1 + szM l := by rw [szQ]
theorem szP_app (a b : List (Bool × List Fm)) : szP (a ++ b) = szP a + szP b := by rw [szP_sum, szP_sum, szP_sum, List.map_append, List.sum_append_nat]
theorem szP_flat : ∀ l : List Fm, szP (l.flatMap Fm.ps) + l.length = szM l
  | [] => by rw [szM]; rfl
  | .mk us ps :: l => by
    have h := szP_flat l
    rw [List.flatMap_cons, szP_app, szM, szF]
    show szP ps + szP (l.flatMap Fm.ps) + (l.length + 1) = 1 + szP ps + szM l
    omega
theorem szF_addF (l : List Fm) : szF (addF l) + l.length = 1 + szM l := by
  have h := szP_flat l
  unfold addF; rw [szF]; omega
theorem szM_len (l : List Fm) : l.length ≤ szM l := by rw [szM_sum]; exact sum_ge_length szF szF_pos l
theorem szQ_pos (p : Bool × List Fm) : 1 ≤ szQ p := by obtain ⟨b, l⟩ := p; rw [szQ]; omega
theorem szP_len (l : List (Bool × List Fm)) : l.length ≤ szP l := by rw [szP_sum]; exact sum_ge_length szQ szQ_pos l
theorem ps_len (f : Fm) : f.ps.length < szF f := by
  obtain ⟨us, ps⟩ := f
  have := szP_len ps
  rw [szF]; show ps.length < _; omega
theorem szF_pick (most : Bool) (l : List Fm) : szF (pickF most l) ≤ 2 + szM l := by
  unfold pickF
  split
  · rename_i h
    obtain ⟨f, rfl⟩ := len_one h
    show szF f ≤ 2 + szM [f]
    rw [szM]; omega
  · split
    · rw [szF, szP, szP, szQ]; omega
    · split
      · show szF (.mk _ []) ≤ _; rw [szF, szP]; omega
      · show szF (.mk _ []) ≤ _; rw [szF, szP]; omega
mutual
theorem szF_scale (k : Int × Int) : ∀ f, szF (scaleF k f) ≤ szF f
  | .mk us ps => by
    have h1 := szP_scale k ps
    rw [scaleF, szF]
    have h2 := szF_addF (plainS k us :: scaleP k ps)
    rw [szM, List.length_cons] at h2
    have h3 : szF (plainS k us) = 1 := by unfold plainS; rw [szF, szP]
    omega
theorem szP_scale (k : Int × Int) : ∀ ps, szM (scaleP k ps) ≤ szP ps + (scaleP k ps).length
  | [] => by rw [scaleP, szM]; omega
  | p :: ps => by
    have h1 := szQ_scale k p; have h2 := szP_scale k ps
    rw [scaleP, szM, szP, List.length_cons]; omega
theorem szQ_scale (k : Int × Int) : ∀ p, szF (scaleQ k p) ≤ szQ p + 1
  | (b, l) => by
    have h1 := szM_scale k l
    have h2 := szF_pick (b == decide (0 ≤ k.1)) (scaleL k l)
    rw [scaleQ, szQ]; omega
theorem szM_scale (k : Int × Int) : ∀ l, szM (scaleL k l) ≤ szM l
  | [] => by rw [scaleL]; exact Nat.le_refl _
  | f :: l => by
    have h1 := szF_scale k f; have h2 := szM_scale k l
    rw [scaleL, szM, szM]; omega
end
theorem flat_scale_len (k : Int × Int) (us : List (Int × Int)) (ps : List (Bool × List Fm)) : ((plainS k us :: scaleP k ps).flatMap Fm.ps).length ≤ szP ps := by
  have h1 := szP_scale k ps
  have h2 := szP_flat (scaleP k ps)
  have h3 := szP_len ((scaleP k ps).flatMap Fm.ps)
  rw [List.flatMap_cons]
  show ([] ++ (scaleP k ps).flatMap Fm.ps).length ≤ _
  rw [List.nil_append]; omega
theorem szM_mem {l : List Fm} {f : Fm} (h : f ∈ l) : szF f ≤ szM l := by rw [szM_sum]; exact sum_ge_mem szF l f h
theorem szP_mem {ps : List (Bool × List Fm)} {p : Bool × List Fm} (h : p ∈ ps) : szQ p ≤ szP ps := by rw [szP_sum]; exact sum_ge_mem szQ ps p h
/-- a slice of one that the call has built -/
theorem own_one {α : Type} {W : World} {B g : Nat} {e : TypeId} {n : Nat} {R : α → List Value → Prop} {x : α} {cs : List Value} (hr : W.row g = some (.cells cs.toArray e)) (hB : B ≤ g) (hl : cs.length = n) (hR : R x cs) :
    OwnAt W B e n R (.slice (some ⟨g, 0, none⟩) 1 1) [x] := by
  refine ⟨[cs], rfl, fun i y c hy hc => ?_, ?_⟩
  · match i with
    | 0 =>
      obtain rfl : x = y := by simpa using hy
      obtain rfl : cs = c := by simpa using hc
      exact ⟨hl, hR⟩
    | i + 1 => simp at hy
  · refine ⟨by simp [hl], .inr ⟨g, 1, cs.toArray, rfl, hB, hr, Nat.le_refl _, by simp [maxLen], by simp [hl], ?_⟩⟩
    show cs.toArray.toList.take ([x].length * n) = [cs].flatten
    simp [← hl]
/-- blocks of S but the value's own -/
def exS (S : Nat → Prop) (v : Value) (g : Nat) : Prop := S g ∧ v.ownBlock ≠ some g
theorem forms_append {W w' : World} {B : Nat} {e : TypeId} {S : Nat → Prop} {v v' : Value} {l : List Fm} {f : Fm} {cs : List Value} {css : List (List Value)}
    (h1 : css.length = l.length) (h2 : ∀ (i : Nat) (x : Fm) (cs : List Value), l[i]? = some x → css[i]? = some cs → cs.length = 15 ∧ FormOk W (exS S v) x cs) (hf : FormOk W (exS S v) f cs)
    (ho : w'.ownsRow B e 15 v' (l.length + 1) (css.flatten ++ cs)) (hg : W.grownBy w' v.ownBlock) (hat : v'.ownBlock = v.ownBlock ∨ v'.ownBlock = some W.heap.size) : OwnAt w' B e 15 (FormOk w' (exS S v')) v' (l ++ [f]) := by
  refine OwnAt.append (R := FormOk W (exS S v)) (css' := [cs]) h1 h2 rfl (fun i x c hx hc => ?_) (fun x cs h => h.keep fun g hS hlt => ⟨?_, hS.1, ?_⟩) (by simpa using ho)
  · match i with
    | 0 =>
      obtain rfl : f = x := by simpa using hx
      obtain rfl : cs = c := by simpa using hc
      exact ⟨hf.len, hf⟩
    | i + 1 => simp at hx
  · exact hg.block g hlt (fun e => hS.2 e.symm)
  · intro he
    rcases hat with h | h
    · exact hS.2 (h ▸ he)
    · rw [h] at he; cases he; omega
theorem own_forms_keep {W w' : World} {B B3 : Nat} {e : TypeId} {T : Nat → Prop} {v : Value} {l : List Fm} (h : OwnAt W B e 15 (FormOk W T) v l) (hr : ∀ g, g < B3 → g < W.heap.size → w'.row g = W.row g) (hT : ∀ g, T g → g < B3)
    (hv : ∀ g, v.ownBlock = some g → g < B3) : OwnAt w' B e 15 (FormOk w' T) v l := by
  obtain ⟨css, h1, h2, h3⟩ := h
  refine ⟨css, h1, fun i x cs hx hc => ⟨(h2 i x cs hx hc).1, (h2 i x cs hx hc).2.keep fun g hg hlt => ⟨hr g (hT g hg) hlt, hg⟩⟩, h3.1, ?_⟩
  rcases h3.2 with hn | ⟨g, cap, cur, rfl, hb, hgg, rest⟩
  · exact .inl hn
  · exact .inr ⟨g, cap, cur, rfl, hb, (hr g (hv g rfl) (Array.getElem?_eq_some_iff.1 hgg).1).trans hgg, rest⟩
theorem OwnAt.forms_mono {W w' : World} {B : Nat} {e : TypeId} {T T' : Nat → Prop} {v : Value} {l : List Fm} (h : OwnAt W B e 15 (FormOk W T) v l) (hg : W.grows w') (hT : ∀ g, T g → g < W.heap.size → T' g) : OwnAt w' B e 15 (FormOk w' T') v l := by
  obtain ⟨css, h1, h2, h3⟩ := h
  exact ⟨css, h1, fun i x cs hx hc => ⟨(h2 i x cs hx hc).1, (h2 i x cs hx hc).2.keep fun g hS hlt => ⟨hg.row_eq hlt, hT g hS hlt⟩⟩, h3.grows hg⟩
theorem OwnAt.lt {α : Type} {w : World} {B : Nat} {e : TypeId} {n : Nat} {R : α → List Value → Prop} {v : Value} {l : List α} (h : OwnAt w B e n R v l) {g : Nat} (hg : v.ownBlock = some g) : B ≤ g ∧ g < w.heap.size := by
  obtain ⟨_, _, _, h⟩ := h; exact h.lt g hg
theorem foldl_setL : ∀ (l : List Value) (k : Nat) (z : Array Value), (l.zipIdx k).foldl (fun cs x => cs.setIfInBounds x.snd x.fst) z = setL z k l
  | [], _, _ => rfl
  | x :: l, k, z => by
    rw [List.zipIdx_cons, List.foldl_cons]
    exact foldl_setL l (k + 1) _
@[go_sem] theorem foldl_zip {l : List Value} {z : Array Value} (h : z.size = l.length) : l.zipIdx.foldl (fun cs x => cs.setIfInBounds x.snd x.fst) z = l.toArray := by
  rw [foldl_setL]
  have := setL_list l [] z.toList [] (by simpa using h.symm)
  simpa using this
theorem FormOk_of_parts {w : World} {S : Nat → Prop} {f : Fm} {a : Option Addr} {n c : Nat} (h1 : f.us.length = 7) (h2 : ∀ p ∈ f.us, I64p p) (h3 : SlAt w S 2 (PartR (FormOk w S) w S) (.slice a n c) f.ps) : FormOk w S f (formC f.us (.slice a n c)) := by
  obtain ⟨us, ps⟩ := f
  exact FormOk_form h1 h2 h3
theorem scaleP_q (k : Int × Int) : ∀ ps, scaleP k ps = ps.map (scaleQ k)
  | [] => by rw [scaleP]; rfl
  | p :: ps => by rw [scaleP, scaleP_q k ps]; rfl
theorem setL_size : ∀ (l : List Value) (k : Nat) (z : Array Value), (setL z k l).size = z.size
  | [], _, _ => rfl
  | x :: l, k, z => by show (setL (z.setIfInBounds k x) (k + 1) l).size = _; rw [setL_size l]; simp
@[go_sem] theorem foldl_zip_size {l : List Value} {z : Array Value} : (l.zipIdx.foldl (fun cs x => cs.setIfInBounds x.snd x.fst) z).size = z.size := by
  rw [foldl_setL, setL_size]
theorem foldl_setL15 : ∀ (l : List Value) (k : Nat) (z : Array Value), (l.zipIdx k).foldl (fun cs x => cs.setIfInBounds (15 + x.snd) x.fst) z = setL z (15 + k) l
  | [], _, _ => rfl
  | x :: l, k, z => by
    rw [List.zipIdx_cons, List.foldl_cons]
    exact foldl_setL15 l (k + 1) _
@[go_sem] theorem foldl_zip2 {l l' : List Value} {z : Array Value} (h1 : l.length = 15) (h : z.size = 15 + l'.length) : l'.zipIdx.foldl (fun cs x => cs.setIfInBounds (15 + x.snd) x.fst) (l.zipIdx.foldl (fun cs x => cs.setIfInBounds x.snd x.fst) z) = (l ++ l').toArray := by
  rw [foldl_setL, foldl_setL15]
  have hz : z.toList.length = 15 + l'.length := by simpa using h
  have e1 := setL_list l [] (z.toList.take 15) (z.toList.drop 15) (by rw [List.length_take, hz, h1]; omega)
  simp only [List.nil_append, List.take_append_drop, List.length_nil] at e1
  have e0 : z = z.toList.toArray := by simp
  rw [← e0] at e1
  rw [e1]
  have e2 := setL_list l' l (z.toList.drop 15) [] (by rw [List.length_drop, hz]; omega)
  rw [List.append_nil, List.append_nil, h1] at e2
  exact e2
end Go

/- WALK over norm: a form by a number. No condition but that the form stands in memory and has not too many parts. -/
namespace Go.Proofs.Ythmicnjigfcljaa
open Go.RowKit

def ScaleIH (m : Nat) : Prop := ∀ (f : Fm) (cs : List Value) (k1 k2 : Int) (w : World) (S : Nat → Prop), (∀ g, w.heap.size ≤ g → S g) → FormAt w S m f cs → I64 k1 → I64 k2 → szF f ≤ 4194304 →
    Calls Try.prog 63 #[.agg cs.toArray, .agg #[.int .i64 k1, .int .i64 k2]] w (FormP w S (scaleF (k1, k2) f))

set_option maxRecDepth 100000 in
set_option maxHeartbeats 8000000 in
theorem scale_step (m : Nat) (IH0 : ScaleIH m) (us : List (Int × Int)) (ps : List (Bool × List Fm)) (a0 : Option Addr) (c0 : Nat) (k1 k2 : Int) (w : World) (S : Nat → Prop) (hS : ∀ g, w.heap.size ≤ g → S g) (hu7 : us.length = 7) (hub : ∀ p ∈ us, I64p p)
    (hps : SlAt w S 2 (PartR (FormAt w S m) w S) (.slice a0 ps.length c0) ps) (wk1 : I64 k1) (wk2 : I64 k2) (hsz : szF (.mk us ps) ≤ 4194304) :
    Calls Try.prog 63 #[.agg (formC us (.slice a0 ps.length c0)).toArray, .agg #[.int .i64 k1, .int .i64 k2]] w (FormP w S (scaleF (k1, k2) (.mk us ps))) := by
  have hpsl : ps.length ≤ 4194304 := by have := ps_len (.mk us ps); show ps.length ≤ _; have e : (Fm.mk us ps).ps = ps := rfl; rw [e] at this; omega
  obtain ⟨S1, hS1⟩ : ∃ S1 : Nat → Prop, ∀ g, S1 g ↔ (S g ∧ g ≠ w.heap.size + 1 + 1) := ⟨_, fun _ => Iff.rfl⟩
  have hSn : ∀ g, w.heap.size + 1 + 1 + 1 ≤ g → S1 g := fun g h => (hS1 g).2 ⟨hS g (by omega), by omega⟩
  have hSo : ∀ g, S g → g < w.heap.size → S1 g := fun g h h2 => (hS1 g).2 ⟨h, by omega⟩
  have hSd : ∀ g, S1 g → S g ∧ g ≠ w.heap.size + 1 + 1 := fun g h => (hS1 g).1 h
  have HSN := Lib.hid hSn; have HSO := Lib.hid hSo; have HSD := Lib.hid hSd; clear hS1 hSn hSo hSd
  have HP := Lib.hid hps; have HS := Lib.hid hS; have HUB := Lib.hid hub; have HSZ := Lib.hid hsz; have IH := Lib.hid IH0; have WK := Lib.hid (And.intro wk1 wk2)
  clear hps hS hub hsz IH0 wk1 wk2
  go_enter Try.func63, Try.ntmps63
  go_wp2_with fail
  go_loopg [16] 7 (fun gn v16 wj => ∃ i : Nat, Hid (gn + i = 7) ∧ i ≤ 7 ∧ v16 = .int .i64 i ∧ w.grows wj ∧ wj.row w.heap.size = some (.cells (formC us (.slice a0 ps.length c0)).toArray 30) ∧ wj.row (w.heap.size + 1) = some (.cells #[.int .i64 k1, .int .i64 k2] 23) ∧
    wj.row (w.heap.size + 1 + 1) = some (.cells (formC (zs 0) (.slice none 0 0)).toArray 30) ∧ wj.row (w.heap.size + 1 + 1 + 1) = some (.cells (formC (scU (k1, k2) us i) (.slice none 0 0)).toArray 30))
  case atStart => exact ⟨0, rfl, by omega, rfl, (by repeat (with_reducible first | assumption | exact grA | apply grB | apply grC | apply grD | refine grE ?_ (by omega) _ | refine grF ?_ (by omega) _ _)), by simp [go_sem], by simp [go_sem], by simp [go_sem]; rfl, by simp [go_sem]; rfl⟩
  case round =>
    obtain ⟨i, HK, hi, rfl, hg, hx0, hx1, hx2, hx3⟩ := hrel
    have z0 := row_sz' hx0; have z1 := row_sz' hx1; have z2 := row_sz' hx2; have z3 := row_sz' hx3
    by_cases hi7 : i < 7
    · have hb := uGet_bd HUB.out i
      have hset : setL (formC (scU (k1, k2) us i) (.slice none 0 0)).toArray (i * 2) [.int .i64 (foldQ (1, 1) mulQ [uGet us i, (k1, k2)]).1, .int .i64 (foldQ (1, 1) mulQ [uGet us i, (k1, k2)]).2] = (formC (scU (k1, k2) us (i + 1)) (.slice none 0 0)).toArray := by
        have := formC_set (us := scU (k1, k2) us i) (v := .slice none 0 0) (i := i) (by rw [scU_len]; exact hi7) (foldQ (1, 1) mulQ [uGet us i, (k1, k2)])
        rw [scU_set _ us hi7] at this; exact this
      have m1 : ∀ W G, W.row G = some (.cells #[.int .i64 (uGet us i).1, .int .i64 (uGet us i).2, .int .i64 k1, .int .i64 k2] 23) → Calls Try.prog 77 #[.slice (some ⟨G, 0, none⟩) 2 2] W (Gives W (ratV (foldQ (1, 1) mulQ [uGet us i, (k1, k2)]))) :=
        fun W G h => ratMul_any _ _ W (rats2 h hb ⟨WK.out.1, WK.out.2⟩)
      generalize foldQ (1, 1) mulQ [uGet us i, (k1, k2)] = R at *
      obtain ⟨R1, R2⟩ := R
      have M1 := Lib.hid m1; have HT := Lib.hid hset
      have hi2 : i * 2 + 2 ≤ 15 := by omega
      clear m1 hset hb
      go_wp2_with (first | (go_at_call 77; (with_reducible refine (M1.out _ _ ?_).mono ?_); (simp [go_sem, hx1, z1]); rintro e w1 ⟨rfl, x1, rfl⟩))
      go_roundg (7 - (i + 1))
      case rel => exact ⟨i + 1, Lib.hid (by omega), by omega, by go_num, (by repeat (with_reducible first | assumption | exact grA | apply grB | apply grC | apply grD | refine grE ?_ (by omega) _ | refine grF ?_ (by omega) _ _)), by simp [go_sem, hx0, hx1, hx2, hx3, z0, z1, z2, z3], by simp [go_sem, hx0, hx1, hx2, hx3, z0, z1, z2, z3], by simp [go_sem, hx0, hx1, hx2, hx3, z0, z1, z2, z3], by simp [go_sem, hx0, hx1, hx2, hx3, z0, z1, z2, z3, HT.out]⟩
      case measure => have := HK.out; omega
    · obtain rfl : i = 7 := by omega
      have eU := scU_all (k1, k2) hu7
      have hU7 : (scU (k1, k2) us 7).length = 7 := scU_len _ _ _
      generalize scU (k1, k2) us 7 = U at *
      have EU := Lib.hid eU
      clear eU HK hi hi7
      have hB4 : w.heap.size + 1 + 1 + 1 + 1 ≤ wr.heap.size := z3.1
      go_wp2_with fail
      go_loopg [8, 33] ps.length (fun gn v8 v33 wj => ∃ k : Nat, Hid (gn + k = ps.length) ∧ k ≤ ps.length ∧ v33 = .int .i64 k ∧ w.grows wj ∧ wj.row (w.heap.size + 1) = some (.cells #[.int .i64 k1, .int .i64 k2] 23) ∧
        wj.row (w.heap.size + 1 + 1) = some (.cells (formC (zs 0) (.slice none 0 0)).toArray 30) ∧ Hid (OwnAt wj (w.heap.size + 1 + 1 + 1 + 1) 30 15 (FormOk wj (exS S1 v8)) v8 (plainS (k1, k2) us :: (ps.take k).map (scaleQ (k1, k2)))))
      case atStart =>
        refine ⟨0, rfl, Nat.zero_le _, rfl, (by repeat (with_reducible first | assumption | exact grA | apply grB | apply grC | apply grD | refine grE ?_ (by omega) _ | refine grF ?_ (by omega) _ _)), by simp [go_sem, hx1, z1], by simp [go_sem, hx2, z2], Lib.hid ?_⟩
        refine own_one (cs := formC U (.slice none 0 0)) (by simp [go_sem]; done) hB4 (formC_len _ hU7) ?_
        have := FormOk_form (w := wr.alloc (.cells (formC U (.slice none 0 0)).toArray 30)) (S := exS S1 (.slice (some ⟨wr.heap.size, 0, none⟩) 1 1)) (us := U) (ps := []) (v := .slice none 0 0) hU7 (EU.out ▸ plainS_bd HUB.out ⟨WK.out.1, WK.out.2⟩) (SlAt_nil _ _ _ _)
        rw [EU.out] at this
        rw [EU.out]; exact this
      case round =>
        clear hx0 hx1 hx2 hx3 z0 z1 z2 z3 hg hB4
        obtain ⟨k, HK, hk, rfl, hg, hx1, hx2, HW⟩ := hrel
        have z1 := row_sz' hx1; have z2 := row_sz' hx2
        by_cases hlt : k < ps.length
        · obtain ⟨a0', cap0, e0, hl0, hc0, hE0⟩ := HP.out
          injection e0 with e1 e2 e3
          subst e1; subst e3
          rcases hE0 with h | ⟨g, off, rfl, hSg, hcell⟩
          · rw [h] at hlt; cases hlt
          obtain ⟨cs', hl2, hel, v', rfl, hsl⟩ := hcell k ps[k] (by simp [hlt])
          have htk : (ps.take (k + 1)).map (scaleQ (k1, k2)) = (ps.take k).map (scaleQ (k1, k2)) ++ [scaleQ (k1, k2) ps[k]] := by
            rw [List.take_succ_eq_append_getElem hlt, List.map_append]; rfl
          have hszp : szQ ps[k] ≤ 4194303 := by
            have h1 := szP_mem (List.getElem_mem hlt)
            have h2 := HSZ.out
            rw [szF] at h2; omega
          have he := hel.grows hg
          unfold eltAt at he
          have zr := lt_sz (hel.grows hg).lt
          generalize ps[k] = p at *
          obtain ⟨b, args⟩ := p
          obtain ⟨a1, c1, rfl, hn1, hn2⟩ := hsl.len
          have e3 : segOk (off + k * 2) 2 (wr.row g) = true := he.1
          have e4 : segV (off + k * 2) 2 (wr.row g) = .agg #[.bool b, .slice a1 args.length c1] := he.2
          rw [szQ_eq] at hszp
          have hal : args.length ≤ 4194303 := by have := szM_len args; omega
          have HSL := Lib.hid hsl; have HTK := Lib.hid htk; have HZP := Lib.hid hszp
          clear hcell hel he hsl htk hszp hl2
          have hB8 : ∀ g, u8.ownBlock = some g → w.heap.size + 1 + 1 + 1 + 1 ≤ g ∧ g < wr.heap.size := fun g hg0 => HW.out.lt hg0
          have HB8 := Lib.hid hB8; clear hB8
          have hbb : w.heap.size + 1 + 1 + 1 ≤ wr.heap.size := z2.1
          generalize hbe : wr.heap.size = bb at *
          go_wp2_with fail
          go_loopg [11, 40] args.length (fun gn v11 v40 wj => ∃ j : Nat, Hid (gn + j = args.length) ∧ j ≤ args.length ∧ v40 = .int .i64 j ∧ w.grows wj ∧ wj.row (w.heap.size + 1) = some (.cells #[.int .i64 k1, .int .i64 k2] 23) ∧
            wj.row (w.heap.size + 1 + 1) = some (.cells (formC (zs 0) (.slice none 0 0)).toArray 30) ∧ wj.row bb = some (.cells #[.bool b, .slice a1 args.length c1] 76) ∧
            Hid (OwnAt wj (w.heap.size + 1 + 1 + 1 + 1) 30 15 (FormOk wj (fun g => exS S1 u8 g ∧ g < bb + 1)) u8 (plainS (k1, k2) us :: (ps.take k).map (scaleQ (k1, k2)))) ∧
            Hid (OwnAt wj (bb + 1) 30 15 (FormOk wj (exS (exS S1 u8) v11)) v11 ((args.take j).map (scaleF (k1, k2)))))
          case atStart => exact ⟨0, rfl, Nat.zero_le _, rfl, (by repeat (with_reducible first | assumption | exact grA | apply grB | apply grC | apply grD | refine grE ?_ (by omega) _ | refine grF ?_ (by omega) _ _)), by simp [go_sem, hx1, hx2, z1, z2, hbe], by simp [go_sem, hx1, hx2, z1, z2, hbe], by simp [go_sem, hx1, hx2, z1, z2, hbe], Lib.hid (HW.out.forms_mono (World.grows.trans (by repeat (with_reducible first | assumption | exact grA | apply grB | apply grC | apply grD | refine grE ?_ (by omega) _ | refine grF ?_ (by omega) _ _)) World.grows.refl) (fun g hg0 hl0 => ⟨hg0, by omega⟩)), OwnAt_nil _ _ _ _ _⟩
          case round =>
            obtain ⟨j, HK2, hj, rfl, hg2, hy1, hy2, hy3, HW8, HW11⟩ := hrel
            clear hx1 hx2 z1 z2 zr e3 e4 HW hbe
            have y1 := row_sz' hy1; have y2 := row_sz' hy2; have y3 := row_sz' hy3
            by_cases hlt2 : j < args.length
            · obtain ⟨a1', cap1, e0, hl1, hc1, hE1⟩ := HSL.out
              injection e0 with e1 e2 e3
              subst e1; subst e3
              rcases hE1 with h | ⟨g2, off2, rfl, hSg2, hcell2⟩
              · rw [h] at hlt2; cases hlt2
              obtain ⟨cs3, hl15, hel2, hfa⟩ := hcell2 j args[j] (by simp [hlt2])
              have htj : (args.take (j + 1)).map (scaleF (k1, k2)) = (args.take j).map (scaleF (k1, k2)) ++ [scaleF (k1, k2) args[j]] := by
                rw [List.take_succ_eq_append_getElem hlt2, List.map_append]; rfl
              have hszf : szF args[j] ≤ 4194304 := by
                have h1 := szM_mem (List.getElem_mem hlt2)
                have h2 := HZP.out
                omega
              have he2 := hel2.grows hg2
              unfold eltAt at he2
              rw [hl15] at he2
              have zr2 := lt_sz (hel2.grows hg2).lt
              have e5 : segOk (off2 + j * 15) 15 (wr.row g2) = true := he2.1
              have e6 : segV (off2 + j * 15) 15 (wr.row g2) = .agg cs3.toArray := he2.2
              obtain ⟨css11, p1, p2, p3⟩ := HW11.out
              rw [List.length_map, List.length_take, Nat.min_eq_left (Nat.le_of_lt hlt2)] at p3
              have c1 : ∀ W, wr.grows W → Calls Try.prog 63 #[.agg cs3.toArray, .agg #[.int .i64 k1, .int .i64 k2]] W (FormP W (exS (exS S1 u8) u11) (scaleF (k1, k2) args[j])) := fun W hW => by
                have hs1 := hW.below.size
                have hs2 := hg2.below.size
                refine IH.out _ _ k1 k2 W _ (fun g hg0 => ⟨⟨HSN.out g (by have := y2.1; omega), fun e => ?_⟩, fun e => ?_⟩) (FormAt.keep (fun g hSg0 hlt0 => ⟨(hg2.trans hW).row_eq hlt0, ⟨HSO.out g hSg0 hlt0, fun e => ?_⟩, fun e => ?_⟩) m _ _ hfa) WK.out.1 WK.out.2 hszf
                · have := (HB8.out g e).2; have := y3.1; omega
                · have := (HW11.out.lt e).2; omega
                · have := (HB8.out g e).1; omega
                · have := (HW11.out.lt e).1; omega
              generalize args[j] = f at *
              obtain ⟨us3, ps3⟩ := f
              obtain ⟨hu37, _, v3, rfl, hs3⟩ := FormOk_us (⟨m, hfa⟩ : FormOk w S _ _)
              obtain ⟨a3, c3, rfl, hn31, hn32⟩ := hs3.len
              generalize scaleF (k1, k2) (.mk us3 ps3) = F at *
              have C1 := Lib.hid c1; have P1 := Lib.hid p1; have P2 := Lib.hid p2; have P3 := Lib.hid p3; have HTJ := Lib.hid htj
              clear c1 p1 p2 p3 hfa hs3 hel2 he2 hcell2 hl15 hszf htj
              go_wp2_with (first | (go_at_call 63; (with_reducible refine (C1.out _ (by repeat (with_reducible first | assumption | exact grA | apply grB | apply grC | apply grD | refine grE ?_ (by omega) _ | refine grF ?_ (by omega) _ _))).mono ?_); rintro e w1 ⟨a5, c5, rfl, hg5, h57, h5b, h5s⟩; have hrw1 : wr.grows w1 := World.grows.trans (by repeat (with_reducible first | assumption | exact grA | apply grB | apply grC | apply grD | refine grE ?_ (by omega) _ | refine grF ?_ (by omega) _ _)) hg5; have hgw1 : w.grows w1 := World.grows.trans hg2 hrw1; have q1 := (hrw1.row_eq y1.1).trans hy1; have q2 := (hrw1.row_eq y2.1).trans hy2; have q3 := (hrw1.row_eq y3.1).trans hy3; have t1 := row_sz' q1; have t2 := row_sz' q2; have t3 := row_sz' q3; have H5B := Lib.hid h5b; have H5S := Lib.hid h5s; clear h5b h5s hg5) | (at_builtin; refine wpList_app w (bb + 1) rfl (.tmp 44) (.tmp 48) _ rfl 30 (.agg #[.int .i64 0, .int .i64 0, .int .i64 0, .int .i64 0, .int .i64 0, .int .i64 0, .int .i64 0, .int .i64 0, .int .i64 0, .int .i64 0, .int .i64 0, .int .i64 0, .int .i64 0, .int .i64 0, .slice none 0 0]) 15 136 Try.underlying49 (by kernel_rfl) rfl (by omega) (by omega) _ j _ rfl (P3.out.grows (by repeat (with_reducible first | assumption | exact grA | apply grB | apply grC | apply grD | refine grE ?_ (by omega) _ | refine grF ?_ (by omega) _ _))) _ 1 _ (formC F.us (.slice a5 F.ps.length c5)) rfl (formC_len _ h57) (cells_of_row (e := 30) (fr := (0, 0)) (by simp [go_sem])) (fun u hu => List.all_eq_true.1 (formC_one rfl) u hu) (by omega) (by repeat (with_reducible first | assumption | exact grA | apply grB | apply grC | apply grD | refine grE ?_ (by omega) _ | refine grF ?_ (by omega) _ _)) (by omega) (by simp; omega) ?_; intro v' w' hg' HO' HR' HG' HA'))
              go_wp2_with fail
              go_roundg (args.length - (j + 1))
              case rel =>
                have hp1 : css11.length = ((args.take j).map (scaleF (k1, k2))).length := P1.out
                refine ⟨j + 1, Lib.hid (by omega), by omega, by go_num, hg', (HR'.out _ (by omega)).trans (by simp [go_sem, q1, t1]), (HR'.out _ (by omega)).trans (by simp [go_sem, q2, t2]), (HR'.out _ (by omega)).trans (by simp [go_sem, q3, t3]),
                  Lib.hid (own_forms_keep (HW8.out.forms_mono (hrw1.trans (World.grows.alloc World.grows.refl _)) (fun _ h _ => h)) (fun g h _ => HR'.out g h) (fun g h => h.2) (fun g h => by have := (HB8.out g h).2; omega)), Lib.hid ?_⟩
                rw [HTJ.out]
                refine forms_append P1.out (fun i x cs hx hc => ⟨(P2.out i x cs hx hc).1, (P2.out i x cs hx hc).2.grows (hrw1.trans (World.grows.alloc World.grows.refl _))⟩) ((FormOk_of_parts h57 H5B.out H5S.out).grows (World.grows.alloc World.grows.refl _)) ?_ HG'.out HA'.out
                have := HO'.out
                rw [List.length_map, List.length_take, Nat.min_eq_left (Nat.le_of_lt hlt2)]
                exact this
              case measure => have := HK2.out; omega
            · obtain rfl : j = args.length := by omega
              have h11 := HW11.out
              rw [List.take_length] at h11
              have hal2 : (args.map (scaleF (k1, k2))).length ≤ 4194304 := by rw [List.length_map]; omega
              have c1 : ∀ W, wr.grows W → Calls Try.prog 70 #[.bool (b == decide (0 ≤ k1)), u11] W (FormP W (exS S1 u8) (pickF (b == decide (0 ≤ k1)) (args.map (scaleF (k1, k2))))) := fun W hW => by
                have hs1 := hW.below.size
                refine pick_any _ _ _ W _ (fun g hg0 => ⟨HSN.out g (by have := y2.1; omega), fun e => ?_⟩) ((h11.forms_mono hW (T' := exS S1 u8) (fun g h _ => h.1)).slAt (by omega) (fun g hg0 => ⟨HSN.out g (by have := (h11.lt hg0).1; omega), fun e => ?_⟩)) hal2
                · have := (HB8.out g e).2; have := y3.1; omega
                · have := (HB8.out g e).2; have := (h11.lt hg0).1; omega
              have esq : scaleQ (k1, k2) (b, args) = pickF (b == decide (0 ≤ k1)) (args.map (scaleF (k1, k2))) := by rw [scaleQ, scaleL_map]
              rw [← esq] at c1
              have hlist : (plainS (k1, k2) us :: (ps.take (k + 1)).map (scaleQ (k1, k2))) = (plainS (k1, k2) us :: (ps.take k).map (scaleQ (k1, k2))) ++ [scaleQ (k1, k2) (b, args)] := by rw [HTK.out]; rfl
              generalize scaleQ (k1, k2) (b, args) = F at *
              obtain ⟨css8, p1, p2, p3⟩ := HW8.out
              have hl8 : (plainS (k1, k2) us :: (ps.take k).map (scaleQ (k1, k2))).length = k + 1 := by
                rw [List.length_cons, List.length_map, List.length_take, Nat.min_eq_left (Nat.le_of_lt hlt)]
              rw [hl8] at p3
              have C1 := Lib.hid c1; have P1 := Lib.hid p1; have P2 := Lib.hid p2; have P3 := Lib.hid p3; have HL := Lib.hid hlist; have HL8 := Lib.hid hl8
              clear c1 p1 p2 p3 hlist hl8 h11 hal2 esq
              go_wp2_with (first | (go_at_call 70; (with_reducible refine (C1.out _ (by repeat (with_reducible first | assumption | exact grA | apply grB | apply grC | apply grD | refine grE ?_ (by omega) _ | refine grF ?_ (by omega) _ _))).mono ?_); rintro e w1 ⟨a5, c5, rfl, hg5, h57, h5b, h5s⟩; have hrw1 : wr.grows w1 := World.grows.trans (by repeat (with_reducible first | assumption | exact grA | apply grB | apply grC | apply grD | refine grE ?_ (by omega) _ | refine grF ?_ (by omega) _ _)) hg5; have hgw1 : w.grows w1 := World.grows.trans hg2 hrw1; have q1 := (hrw1.row_eq y1.1).trans hy1; have q2 := (hrw1.row_eq y2.1).trans hy2; have t1 := row_sz' q1; have t2 := row_sz' q2; have H5B := Lib.hid h5b; have H5S := Lib.hid h5s; clear h5b h5s hg5) | (at_builtin; refine wpList_app w (w.heap.size + 1 + 1 + 1 + 1) rfl (.tmp 51) (.tmp 60) _ rfl 30 (.agg #[.int .i64 0, .int .i64 0, .int .i64 0, .int .i64 0, .int .i64 0, .int .i64 0, .int .i64 0, .int .i64 0, .int .i64 0, .int .i64 0, .int .i64 0, .int .i64 0, .int .i64 0, .int .i64 0, .slice none 0 0]) 15 136 Try.underlying49 (by kernel_rfl) rfl (by omega) (by omega) _ (k + 1) _ rfl (P3.out.grows (by repeat (with_reducible first | assumption | exact grA | apply grB | apply grC | apply grD | refine grE ?_ (by omega) _ | refine grF ?_ (by omega) _ _))) _ 1 _ (formC F.us (.slice a5 F.ps.length c5)) rfl (formC_len _ h57) (cells_of_row (e := 30) (fr := (0, 0)) (by simp [go_sem])) (fun u hu => List.all_eq_true.1 (formC_one rfl) u hu) (by omega) (by repeat (with_reducible first | assumption | exact grA | apply grB | apply grC | apply grD | refine grE ?_ (by omega) _ | refine grF ?_ (by omega) _ _)) (by omega) (by simp; omega) ?_; intro v' w' hg' HO' HR' HG' HA'))
              go_wp2_with fail
              go_roundg (ps.length - (k + 1))
              case rel =>
                refine ⟨k + 1, Lib.hid (by omega), by omega, by go_num, hg', (HR'.out _ (by omega)).trans (by simp [go_sem, q1, t1]), (HR'.out _ (by omega)).trans (by simp [go_sem, q2, t2]), Lib.hid ?_⟩
                rw [HL.out]
                refine forms_append P1.out (fun i x cs hx hc => ⟨(P2.out i x cs hx hc).1, (P2.out i x cs hx hc).2.keep (fun g h hlt => ⟨(hrw1.trans (World.grows.alloc World.grows.refl _)).row_eq hlt, h.1⟩)⟩) ((FormOk_of_parts h57 H5B.out H5S.out).grows (World.grows.alloc World.grows.refl _)) ?_ HG'.out HA'.out
                rw [HL8.out]
                exact HO'.out
              case measure => have := HK.out; omega
        · obtain rfl : k = ps.length := by omega
          have hW := HW.out
          rw [List.take_length, ← scaleP_q] at hW
          have hfl := flat_scale_len (k1, k2) us ps
          have hsz := HSZ.out
          rw [szF] at hsz
          have hll : (plainS (k1, k2) us :: scaleP (k1, k2) ps).length ≤ 4194304 := by
            have := szP_len ps
            rw [List.length_cons, scaleP_q, List.length_map]; omega
          have c1 : ∀ W, wr.grows W → Calls Try.prog 67 #[u8] W (FormP W S1 (scaleF (k1, k2) (.mk us ps))) := fun W hWg => by
            have hs1 := hWg.below.size
            rw [scaleF]
            exact add_any _ _ W _ (fun g hg0 => HSN.out g (by have := z2.1; omega)) ((hW.forms_mono hWg (T' := S1) (fun g h _ => h.1)).slAt (by omega) (fun g hg0 => HSN.out g (by have := (hW.lt hg0).1; omega))) hll (by omega)
          generalize scaleF (k1, k2) (.mk us ps) = F at *
          have C1 := Lib.hid c1
          clear c1 hW hfl hsz hll HW
          go_wp2_with (first | (go_at_call 67; (with_reducible refine (C1.out _ (by repeat (with_reducible first | assumption | exact grA | apply grB | apply grC | apply grD | refine grE ?_ (by omega) _ | refine grF ?_ (by omega) _ _))).mono ?_); rintro e w1 ⟨a5, c5, rfl, hg5, h57, h5b, h5s⟩; have hrw1 : wr.grows w1 := World.grows.trans (by repeat (with_reducible first | assumption | exact grA | apply grB | apply grC | apply grD | refine grE ?_ (by omega) _ | refine grF ?_ (by omega) _ _)) hg5; have hgw1 : w.grows w1 := World.grows.trans hg hrw1; have q2 := (hrw1.row_eq z2.1).trans hx2; have t2 := row_sz' q2; have H5B := Lib.hid h5b; have H5S := Lib.hid h5s; clear h5b h5s hg5))
          (with_reducible show bodyPost _ _ _ _ _ _); exact ret_30 rfl rfl (by simp [go_sem, q2, t2, h57]) rfl ⟨a5, c5, (by simp [go_sem, q2, t2, h57]), (by repeat (with_reducible first | assumption | exact grA | apply grB | apply grC | apply grD | refine grE ?_ (by omega) _ | refine grF ?_ (by omega) _ _)), h57, H5B.out, H5S.out.keep (fun g h _ => ⟨by rw [World.row_setRow, if_neg (HSD.out g h).2], (HSD.out g h).1⟩) (fun x _ cs ⟨v', e, h⟩ => ⟨v', e, h.keep (fun g h _ => ⟨by rw [World.row_setRow, if_neg (HSD.out g h).2], (HSD.out g h).1⟩) (fun f _ cs hf => hf.keep (fun g h _ => ⟨by rw [World.row_setRow, if_neg (HSD.out g h).2], (HSD.out g h).1⟩))⟩)⟩

theorem scale_all : ∀ m, ScaleIH m
  | 0 => fun _ _ _ _ _ _ _ h _ _ _ => h.elim
  | m + 1 => by
    intro f cs k1 k2 w S hS h wk1 wk2 hsz
    obtain ⟨us, ps⟩ := f
    obtain ⟨h1, h2, v, rfl, h4⟩ := h
    obtain ⟨a, c, rfl, _⟩ := h4.len
    exact scale_step m (scale_all m) us ps a c k1 k2 w S hS h1 h2 h4 wk1 wk2 hsz
theorem scale_any (f : Fm) (cs : List Value) (k1 k2 : Int) (w : World) (S : Nat → Prop) (hS : ∀ g, w.heap.size ≤ g → S g) (h : FormOk w S f cs) (wk1 : I64 k1) (wk2 : I64 k2) (hsz : szF f ≤ 4194304) :
    Calls Try.prog 63 #[.agg cs.toArray, .agg #[.int .i64 k1, .int .i64 k2]] w (FormP w S (scaleF (k1, k2) f)) := by
  obtain ⟨m, h⟩ := h
  exact scale_all m f cs k1 k2 w S hS h wk1 wk2 hsz

end Go.Proofs.Ythmicnjigfcljaa

/- PLAIN: trees of expressions that are lengths: of which kinds their kids are; how many parts their forms have. No condition; no program. -/
namespace Go
open Go.RowKit
theorem mayE_mono : ∀ (m left left' : Nat) (t : Ex), mayE m left t = true → left ≤ left' → mayE m left' t = true
  | 0, _, _, _, h, _ => by simp [mayE] at h
  | m + 1, left, left', .mk k n d u kids, h, hle => by
    unfold mayE at *
    split at h
    · cases h
    · rw [if_neg (by omega)]
      split at h
      · rename_i hk; rw [if_pos hk]; exact h
      · rename_i hk
        rw [if_neg hk]
        simp only [Bool.and_eq_true, List.all_eq_true] at h ⊢
        exact ⟨h.1, h.2.1, h.2.2.1, fun t ht => mayE_mono m _ _ t (h.2.2.2 t ht) (by omega)⟩
/-- a length that is no product: its kids are lengths -/
theorem kind_kids {m : Nat} {k n d u : Int} {kids : List Ex} (h : kindE (m + 1) (.mk k n d u kids) = 2) (h1 : k ≠ 1) (h4 : k ≠ 4) : k ≠ 5 ∧ ∀ t ∈ kids, kindE m t = 2 := by
  simp only [kindE, if_neg h1] at h
  split at h
  · cases h
  · split at h
    · cases h
    · split at h
      · rename_i hc
        rcases hc with ⟨h, _⟩ | ⟨_, h5, hc⟩
        · exact absurd h h4
        · refine ⟨h5, fun t ht => ?_⟩
          have : (kids.map (kindE m)).countP (· == 2) = (kids.map (kindE m)).length := by rw [List.length_map]; exact hc
          have := List.countP_eq_length.1 this (kindE m t) (List.mem_map_of_mem ht)
          simpa using this
      · cases h
/-- a product: one length, the others numbers -/
theorem kind_prod {m : Nat} {n d u : Int} {kids : List Ex} (h : kindE (m + 1) (.mk 4 n d u kids) = 2) : (kids.filter fun t => kindE m t == 2).length = 1 ∧ ∀ t ∈ kids, kindE m t = 1 ∨ kindE m t = 2 := by
  simp only [kindE, if_neg (show ¬ (4 : Int) = 1 by omega)] at h
  split at h
  · cases h
  · rename_i h0
    split at h
    · cases h
    · split at h
      · rename_i hc
        rcases hc with ⟨_, hc⟩ | ⟨h, _⟩
        · rw [List.countP_map] at hc
          refine ⟨by rw [← List.countP_eq_length_filter]; exact hc, fun t ht => ?_⟩
          rcases kindE_range m t with h | h | h
          · exact absurd (List.any_eq_true.2 ⟨kindE m t, List.mem_map_of_mem ht, by simpa using h⟩) h0
          · exact .inl h
          · exact .inr h
        · exact absurd rfl h
      · cases h
theorem sum_le_mul {α : Type} {f g : α → Nat} {c : Nat} : ∀ (l : List α), (∀ x ∈ l, f x ≤ c * g x) → (l.map f).sum ≤ c * (l.map g).sum
  | [], _ => by simp
  | x :: l, h => by
    have h1 := h x (by simp)
    have h2 := sum_le_mul l fun y hy => h y (by simp [hy])
    simp only [List.map_cons, List.sum_cons, Nat.mul_add]; omega
theorem sum_sublist {a b : List Nat} (h : a.Sublist b) : a.sum ≤ b.sum := by
  induction h with
  | slnil => exact Nat.le_refl _
  | cons x _ ih => rw [List.sum_cons]; omega
  | cons_cons x _ ih => rw [List.sum_cons, List.sum_cons]; omega
theorem szF_zero : szF zeroF = 1 := by unfold zeroF; rw [szF, szP]
theorem szF_formE : ∀ (m left : Nat) (t : Ex), mayE m left t = true → szF (formE m t) ≤ 4 * szE m t
  | 0, _, _, _ => by rw [formE, szF_zero]; simp [szE]
  | m + 1, left, .mk k n d u kids, hm => by
    by_cases h1 : k = 1
    · subst h1
      simp only [formE]
      simp only [show ¬ (1 : Int) = 4 by omega, show ¬ (1 : Int) = 2 by omega, show ¬ (1 : Int) = 3 by omega, show ¬ (1 : Int) = 6 by omega, show ¬ (1 : Int) = 7 by omega, show ¬ (1 : Int) = 8 by omega, if_false]
      show szF (.mk _ []) ≤ _
      rw [szF, szP, szE]; omega
    · have hkids : kids.all (mayE m (left - 1)) = true ∧ lenOk k kids.length = true := by
        simp only [mayE, if_neg h1] at hm
        split at hm
        · cases hm
        · simp only [Bool.and_eq_true] at hm; exact ⟨hm.2.2.2, hm.2.2.1⟩
      have ih : ∀ t ∈ kids, szF (formE m t) ≤ 4 * szE m t := fun t ht => szF_formE m (left - 1) t (List.all_eq_true.1 hkids.1 t ht)
      have hM : szM (kids.map (formE m)) ≤ 4 * (kids.map (szE m)).sum := by
        rw [szM_sum, List.map_map]; exact sum_le_mul kids ih
      have hmem : ∀ (l : List Fm) (f : Fm) (d : Fm), szF d = 1 → szF (l.getD 0 d) ≤ 1 + szM l := fun l f d hd => by
        cases l with
        | nil => simp [hd]
        | cons x l => simp only [List.getD_cons_zero]; rw [szM]; omega
      have hg : szF ((kids.map (formE m)).getD 0 zeroF) ≤ 1 + 4 * (kids.map (szE m)).sum := Nat.le_trans (hmem _ zeroF zeroF szF_zero) (by omega)
      rw [szE]
      unfold formE
      dsimp only
      split
      · refine Nat.le_trans (szF_scale _ _) ?_
        have h2 : szM ((kids.filter fun t => kindE m t == 2).map (formE m)) ≤ 4 * (kids.map (szE m)).sum := by
          refine Nat.le_trans ?_ hM
          have hs : ((kids.filter fun t => kindE m t == 2).map (formE m)).Sublist (kids.map (formE m)) := List.filter_sublist.map _
          rw [szM_sum, szM_sum]
          exact sum_sublist (hs.map szF)
        have := hmem ((kids.filter fun t => kindE m t == 2).map (formE m)) zeroF (.mk (List.replicate 7 (0, 0)) []) (by rw [szF, szP])
        omega
      · split
        · have := szF_addF (kids.map (formE m)); omega
        · split
          · exact Nat.le_trans (szF_scale _ _) (by omega)
          · split
            · have := szF_pick false (kids.map (formE m)); omega
            · split
              · have := szF_pick true (kids.map (formE m)); omega
              · split
                · rename_i _ _ _ _ _ h8
                  subst h8
                  have hl : kids.length = 3 := by simpa [lenOk] using hkids.2
                  have hl2 : (kids.map (formE m)).length = 3 := by rw [List.length_map]; exact hl
                  generalize kids.map (formE m) = L at *
                  obtain ⟨p, q, r, rfl⟩ := len_three hl2
                  simp only [List.getD_cons_zero, List.drop_succ_cons, List.drop_zero]
                  have h1 := szF_pick true [p, pickF false [q, r]]
                  have h2 := szF_pick false [q, r]
                  simp only [szM] at h1 h2 hM
                  omega
                · show szF (.mk _ []) ≤ _
                  rw [szF, szP]; omega
/-- the first form of three, and the others -/
theorem slAt_head3 {w : World} {S : Nat → Prop} {f f1 f2 : Fm} {v : Value} (h : SlAt w S 15 (FormOk w S) v [f, f1, f2]) : ∃ g off cap us a n c ps, v = .slice (some ⟨g, off, none⟩) 3 cap ∧ 3 ≤ cap ∧ cap ≤ 9223372036854775807 ∧ f = .mk us ps ∧ n = ps.length ∧ us.length = 7 ∧ (∀ p ∈ us, I64p p) ∧
    g < w.heap.size ∧ segOk off 15 (w.row g) = true ∧ segV off 15 (w.row g) = .agg (formC us (.slice a n c)).toArray ∧ SlAt w S 2 (PartR (FormOk w S) w S) (.slice a n c) ps ∧ SlAt w S 15 (FormOk w S) (.slice (some ⟨g, off + 15, none⟩) 2 (cap - 1)) [f1, f2] := by
  obtain ⟨a, cap, rfl, h2, h3, h4⟩ := h
  simp only [List.length_cons, List.length_nil, Nat.zero_add, Nat.reduceAdd] at h2
  rcases h4 with h4 | ⟨g, off, rfl, hS, hc⟩
  · cases h4
  · obtain ⟨cs, e1, e2, e3⟩ := hc 0 f rfl
    simp only [Nat.zero_mul, Nat.add_zero] at e2
    obtain ⟨us, ps⟩ := f
    obtain ⟨k1, k2, v', rfl, k3⟩ := FormOk_us e3
    obtain ⟨a', c', rfl, _⟩ := k3.len
    have hlt := e2.lt
    unfold eltAt at e2
    rw [e1] at e2
    refine ⟨g, off, cap, us, a', ps.length, c', ps, rfl, h2, h3, rfl, rfl, k1, k2, hlt, e2.1, e2.2, k3, _, _, rfl, by simp; omega, by omega, .inr ⟨g, off + 15, rfl, hS, fun i x hx => ?_⟩⟩
    have := hc (i + 1) x (by simpa using hx)
    rw [show off + (i + 1) * 15 = off + 15 + i * 15 by omega] at this
    exact this
/-- a slice of two forms -/
theorem slAt_two {W : World} {S : Nat → Prop} {g : Nat} {t : TypeId} {f f1 : Fm} {cs cs1 : List Value} (hr : W.row g = some (.cells (cs ++ cs1).toArray t)) (hS : S g) (h : FormOk W S f cs) (h1 : FormOk W S f1 cs1) :
    SlAt W S 15 (FormOk W S) (.slice (some ⟨g, 0, none⟩) 2 2) [f, f1] := by
  have l1 := h.len; have l2 := h1.len
  refine ⟨_, 2, rfl, by simp, by omega, .inr ⟨g, 0, rfl, hS, fun i x hx => ?_⟩⟩
  match i with
  | 0 =>
    obtain rfl : f = x := by simpa using hx
    refine ⟨cs, l1, ⟨?_, ?_⟩, h⟩
    · rw [hr]; show decide _ = true; simp [l1, l2]
    · rw [hr]; show Value.agg _ = _
      congr 1
      apply Array.ext'
      simp
  | 1 =>
    obtain rfl : f1 = x := by simpa using hx
    refine ⟨cs1, l2, ⟨?_, ?_⟩, h1⟩
    · rw [hr]; show decide _ = true; simp [l1, l2]
    · rw [hr]; show Value.agg _ = _
      congr 1
      apply Array.ext'
      simp [l1, l2, List.take_of_length_le (show cs1.length ≤ 15 by omega)]
  | i + 2 => simp at hx
@[go_sem low] theorem segV_lit (off n : Nat) (l : List Value) (t : TypeId) (fr : Nat × Nat) : segV off n (some (.cells l.toArray t fr)) = .agg ((l.drop off).take n).toArray := by
  show Value.agg (l.toArray.extract off (off + n)) = _
  congr 1
  apply Array.ext'
  rw [Array.toList_extract, List.extract_eq_take_drop]
  simp
/-- a form whose units are none -/
def noneF : Fm := .mk (List.replicate 7 (0, 0)) []
/-- the one length among these -/
def theF (V : Ex → Fm) (K : Ex → Int) (l : List Ex) : Fm := ((l.filter fun t => K t == 2).map V).getD 0 noneF
/-- the numbers among these -/
def nums (N : Ex → Int × Int) (K : Ex → Int) (l : List Ex) : List (Int × Int) := (l.filter fun t => K t != 2).map N
theorem theF_num {V : Ex → Fm} {K : Ex → Int} {l : List Ex} {t : Ex} (h : K t ≠ 2) : theF V K (l ++ [t]) = theF V K l := by
  unfold theF; rw [List.filter_append]; simp [h]
theorem theF_len {V : Ex → Fm} {K : Ex → Int} {l l' : List Ex} {t : Ex} (h : K t = 2) (h1 : ((l ++ t :: l').filter fun t => K t == 2).length = 1) : theF V K (l ++ [t]) = V t := by
  rw [List.filter_append, List.filter_cons] at h1
  simp [h] at h1
  unfold theF; rw [List.filter_append]
  have : (l.filter fun t => K t == 2) = [] := List.length_eq_zero_iff.1 (by omega)
  rw [this]; simp [h]
theorem nums_num {N : Ex → Int × Int} {K : Ex → Int} {l : List Ex} {t : Ex} (h : K t ≠ 2) : nums N K (l ++ [t]) = nums N K l ++ [N t] := by
  unfold nums; rw [List.filter_append, List.map_append]; simp [h]
theorem nums_len {N : Ex → Int × Int} {K : Ex → Int} {l : List Ex} {t : Ex} (h : K t = 2) : nums N K (l ++ [t]) = nums N K l := by
  unfold nums; rw [List.filter_append, List.map_append]; simp [h]
theorem nums_le {N : Ex → Int × Int} {K : Ex → Int} {l : List Ex} : (nums N K l).length ≤ l.length := by
  unfold nums; rw [List.length_map]; exact List.length_filter_le _ _
theorem formE_prod (m : Nat) (n d u : Int) (kids : List Ex) : formE (m + 1) (.mk 4 n d u kids) = scaleF (foldQ (1, 1) mulQ (nums (numE m) (kindE m) kids)) (theF (formE m) (kindE m) kids) := by
  unfold formE; rw [if_pos rfl]; rfl
end Go

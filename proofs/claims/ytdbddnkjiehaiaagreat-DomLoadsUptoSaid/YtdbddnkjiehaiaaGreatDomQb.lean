/- WALKS over jalousieref8: Below, Order, New. No condition but that a row of elements stands in memory. -/
import Derived.Test.YtdbddnkjiehaiaaGreatDomQa
set_option linter.unusedSimpArgs false
set_option linter.unusedVariables false
namespace Go.Proofs.YtdbddnkjiehaiaaGreat
open Go.Maps Go.RowKit Go.Sort

set_option maxRecDepth 100000 in
set_option maxHeartbeats 8000000 in
theorem refBelow1_any {M : Dm} (hG : M.Good) (n : Nat) (dep : Int → Nat)
    (ih : ∀ f ∈ M.els, 33 ≤ n + dep f.id → ∀ (w : World) (t : Nat) (v : Value), RefR w t v M → Calls Tryz.prog 50 #[.pointer (some ⟨t, 0, none⟩), .int .i64 f.id] w fun r w' => ∃ v', r = .returned v' ∧ w.grows w' ∧ w'.ownsRow w.heap.size 3 1 v' (M.below n f.id).length ((M.below n f.id).map (Value.int .i64)))
    (e : El) (he : e ∈ M.els) (w : World) (t : Nat) (v : Value) (h : RefR w t v M) (hkl : e.ks.length ≤ 256) (hkd : ∀ k ∈ e.ks, ∃ f ∈ M.els, f.id = k ∧ 33 ≤ n + dep f.id) :
    Calls Tryz.prog 50 #[.pointer (some ⟨t, 0, none⟩), .int .i64 e.id] w fun r w' => ∃ v', r = .returned v' ∧ w.grows w' ∧ w'.ownsRow w.heap.size 3 1 v' (M.below (n + 1) e.id).length ((M.below (n + 1) e.id).map (Value.int .i64)) := by
  have HAT := Lib.hid (fun (W : World) (hW : w.grows W) (id : Int) => refAt_any W t v M (h.grows hW) hG.wf.few id)
  obtain ⟨a0, c0, rfl, _⟩ := h.els.len
  obtain ⟨kf, p1, p2, p3⟩ := posE_at hG.wf.up he
  have hfew := hG.wf.few
  have i1 : (kf : Int) < (M.els.length : Int) := by omega
  rcases (els_get h.els).2 with h0 | ⟨g1, o1, rfl, e1⟩
  · rw [h0] at p2; simp at p2
  obtain ⟨cs, l1, k1, ka, aa, kc, ac, rfl, hks, _⟩ := e1 kf _ p3
  have HK := Lib.hid (ints_get (SlAt.keep hks (S' := fun _ => True) (fun g _ _ => ⟨rfl, trivial⟩) fun _ _ _ h => h)).2
  have hbl : (M.below (n + 1) e.id).length ≤ 256 := Nat.le_trans (Dm.below_few hG.wf (n + 1) he (List.prefix_refl _)) hfew
  have hbe := Dm.below_at hG.wf he n
  have HBE := Lib.hid hbe
  have HR := Lib.hid h; have HGD := Lib.hid hG; have HI := Lib.hid ih; have HP := Lib.hid p1; have HE := Lib.hid he; have HKD := Lib.hid hkd
  clear hG ih hkd e1 p3 hks hbe
  rw [HP.out] at *
  clear h
  go_enter Tryz.func50, Tryz.ntmps50
  go_upto_region 4 with (go_at_call 43; go_loud ((with_reducible refine (HAT.out _ (by repeat (with_reducible first | assumption | exact grA | apply grB | apply grC | apply grD | refine grE ?_ (by omega) _ | refine grF ?_ (by omega) _ _)) _).mono ?_); rw [p1]; rintro r w1 ⟨rfl, hg1⟩))
  have hg2 : w.grows (w1.alloc (.cells #[.int .i64 e.id] 3)) := World.grows.alloc hg1 _
  have ho2 : (w1.alloc (.cells #[.int .i64 e.id] 3)).ownsRow w.heap.size 3 1 (.slice (some ⟨w1.heap.size, 0, none⟩) 1 1) 1 [.int .i64 e.id] := ⟨rfl, .inr ⟨w1.heap.size, 1, #[.int .i64 e.id], rfl, hg1.below.size, by show (w1.alloc _).row _ = _; simp [go_sem], Nat.le_refl _, by simp only [maxLen]; omega, rfl, rfl⟩⟩
  go_upto_region 5 with fail
  generalize (w1.alloc (.cells #[.int .i64 e.id] 3)) = w2 at *
  have hx2 := (HR.out.grows hg2).head
  have zx2 := row_sz' hx2
  have k2 := k1.grows hg2
  have z2 := lt_sz k2.lt
  have c2 := k2.cell (j := 3) rfl
  rw [World.cell?_row] at c2
  have HO2 := Lib.hid ho2
  clear ho2 k1 k2 i1
  generalize (some ⟨w1.heap.size, 0, none⟩ : Option Addr) = al at *
  go_upto_region 6 with fail
  go_loopg [6, 25] e.ks.length (fun gn v6 v25 wj => ∃ (i : Nat), Hid (gn + i = e.ks.length ∧ i ≤ e.ks.length) ∧ v25 = .int .i64 i ∧ w.grows wj ∧ Hid (wj.ownsRow w.heap.size 3 1 v6 (e.id :: (e.ks.take i).flatMap (M.below n)).length ((e.id :: (e.ks.take i).flatMap (M.below n)).map (Value.int .i64))))
  case atStart => exact ⟨0, Lib.hid ⟨by simp, Nat.zero_le _⟩, by go_num, hg2, Lib.hid (by simpa using HO2.out)⟩
  case round =>
    obtain ⟨i, HQ, rfl, hgj, HV⟩ := hrel
    obtain ⟨j1, j2⟩ := HQ.out
    by_cases hlt : i < e.ks.length
    · have i1 : (i : Int) < (e.ks.length : Int) := by omega
      rcases HK.out with h0 | ⟨p3, o3, rfl, e3⟩
      · rw [h0] at hlt; simp at hlt
      have hgt := List.getElem?_eq_getElem hlt
      obtain ⟨f, hf, hfk, hfd⟩ := HKD.out _ (List.getElem_mem hlt)
      have hgt' : e.ks[i]? = some f.id := by rw [hgt, hfk]
      have k3 := (e3 i _ hgt').grows hgj
      have z3 := lt_sz k3.lt
      have c3 := k3.cell (j := 0) rfl
      rw [World.cell?_row, Nat.add_zero, Nat.mul_one] at c3
      have HC := Lib.hid (HI.out f hf hfd wr t _ (HR.out.grows hgj))
      have HTK := Lib.hid (show (e.ks.take (i + 1)).flatMap (M.below n) = (e.ks.take i).flatMap (M.below n) ++ M.below n f.id by rw [List.take_add_one, hgt', List.flatMap_append]; simp)
      have hln : (e.id :: (e.ks.take i).flatMap (M.below n)).length + (M.below n f.id).length ≤ 256 := by
        have h1 : e.ks.flatMap (M.below n) = (e.ks.take (i + 1)).flatMap (M.below n) ++ (e.ks.drop (i + 1)).flatMap (M.below n) := by rw [← List.flatMap_append, List.take_append_drop]
        have h2 := hbl
        rw [HBE.out, h1, HTK.out] at h2
        simp only [List.length_cons, List.length_append] at h2 ⊢
        omega
      obtain ⟨ll, hll⟩ : ∃ ll, ll = e.id :: (e.ks.take i).flatMap (M.below n) := ⟨_, rfl⟩
      rw [← hll] at HV hln
      have HLL := Lib.hid hll
      obtain ⟨a6, c6, rfl⟩ := own_slice HV.out
      have hvo := HV.out
      clear e3 k3 hgt hgt' hfk hll HV hx2 zx2 c2 z2
      generalize hbq : M.below n f.id = bq at *
      go_wp2_with (first
        | (go_at_call 50; go_loud ((with_reducible refine HC.out.mono ?_); rintro r w3 ⟨v3, rfl, hg3, hv3⟩); obtain ⟨a3, c3', rfl⟩ := own_slice hv3; (have HV3 := Lib.hid (IntsAt_own hv3)); (have hg03 := hgj.trans hg3); (have s3 := hg3.below.size); (have s03 := hgj.below.size); clear hv3)
        | (at_builtin; refine wpList_appS w (w.heap.size) rfl (.tmp 29) (.tmp 32) _ rfl 3 (.int .i64 0) 1 8 Tryz.underlying46 (by kernel_rfl) rfl (by omega) (by omega) _ ll.length _ rfl (hvo.grows hg3) _ bq.length _ (bq.map (Value.int .i64)) rfl (by simp) (int_news HV3.out).2 (int_one _) (by omega) (by repeat (with_reducible first | assumption | exact grA | apply grB | apply grC | apply grD | refine grE ?_ (by omega) _ | refine grF ?_ (by omega) _ _)) (by omega) (by omega) ?_; intro v' w' hg' HO' HR' HG' HA'))
      have HN := Lib.hid HO'.out
      rw [← List.map_append, ← List.length_append, HLL.out, List.cons_append, ← HTK.out] at HN
      clear HO' HR' HG' HA'
      go_roundg (e.ks.length - (i + 1))
      case measure => omega
      case rel => exact ⟨i + 1, Lib.hid ⟨by omega, by omega⟩, by go_num, hg', HN⟩
    · have i1 : ¬ (i : Int) < (e.ks.length : Int) := by omega
      obtain rfl : i = e.ks.length := by omega
      rw [List.take_length, ← HBE.out] at HV
      go_wp2_with fail
      go_ret
      exact ⟨_, rfl, hgj, HV.out⟩
theorem refBelow_any {M : Dm} (hG : M.Good) (hw : ∀ e ∈ M.els, e.Wf) : ∀ (n : Nat) (dep : Int → Nat), (∀ e ∈ M.els, e.id ≠ M.root → dep e.id = dep e.p + 1) → (∀ e ∈ M.els, dep e.id ≤ 32) → ∀ e ∈ M.els, 33 ≤ n + dep e.id → ∀ (w : World) (t : Nat) (v : Value), RefR w t v M → Calls Tryz.prog 50 #[.pointer (some ⟨t, 0, none⟩), .int .i64 e.id] w fun r w' => ∃ v', r = .returned v' ∧ w.grows w' ∧ w'.ownsRow w.heap.size 3 1 v' (M.below n e.id).length ((M.below n e.id).map (Value.int .i64))
  | 0, dep, h2, h3, e, he, hd, _, _, _, _ => by have := h3 e he; omega
  | n + 1, dep, h2, h3, e, he, hd, w, t, v, h => refBelow1_any hG n dep (refBelow_any hG hw n dep h2 h3) e he w t v h (hw e he).2.2.2.2.2.2.2 (fun k hk => by
    obtain ⟨f, hf, h4, _, h5⟩ := Dm.kid_dep hG.wf h2 he hk
    exact ⟨f, hf, h4, by rw [h4, h5]; omega⟩)

set_option maxRecDepth 100000 in
set_option maxHeartbeats 8000000 in
theorem refOrder_any (w : World) (t : Nat) (v : Value) (M : Dm) (h : RefR w t v M) (hG : M.Good) (hw : ∀ e ∈ M.els, e.Wf) : Calls Tryz.prog 30 #[.pointer (some ⟨t, 0, none⟩)] w fun r w' => ∃ v', r = .returned v' ∧ w.grows w' ∧ w'.ownsRow w.heap.size 3 1 v' (M.below 32 M.root).length ((M.below 32 M.root).map (Value.int .i64)) := by
  obtain ⟨dep, d1, d2, d3⟩ := hG.wf.dep
  obtain ⟨e, he, h1, _⟩ := hG.wf.rootE
  have HR := Lib.hid (refRoot_any w t v M h hG)
  have HB := Lib.hid (fun (W : World) (hW : w.grows W) => h1 ▸ refBelow_any hG hw 32 dep d2 d3 e he (by rw [h1, d1]; omega) W t v (h.grows hW))
  clear h hG hw d1 d2 d3
  go_enter Tryz.func30, Tryz.ntmps30
  go_wp2_with (first
    | (go_at_call 50; go_loud ((with_reducible refine (HB.out _ hg1).mono ?_); rintro r w2 ⟨v2, rfl, hg2, hv2⟩))
    | (go_at_call 25; go_loud ((with_reducible refine HR.out.mono ?_); rintro r w1 ⟨rfl, hg1⟩); (have s1 := hg1.below.size)))
  go_ret
  exact ⟨_, rfl, hg1.trans hg2, World.ownsRow.mono_base s1 hv2⟩
theorem refInt8_any (n : Int) (w : World) : Calls Tryz.prog 70 #[.int .i64 n] w (Gives w (.agg #[.int .i64 n, .int .i64 1])) := by
  go_enter Tryz.func70, Tryz.ntmps70
  go_wp2_with (first | ((with_reducible show bodyPost _ _ _ _ _ _); exact ret_36 rfl rfl (by simp [go_sem]) rfl ⟨by simp [go_sem], (by repeat (first | exact grA | apply grB | apply grC | apply grD))⟩))
theorem refPlain0 (w : World) : Calls Tryz.prog 56 #[] w (Gives w (.agg #[.int .i64 0, .string { data := #[] }, .int .i64 0, .int .i64 1, .int .i64 0, .int .i64 1])) := by
  go_enter Tryz.func56, Tryz.ntmps56
  go_wp2_with (first | (go_at_call 70; (with_reducible refine (refInt8_any _ _).mono ?_); rintro e w1 ⟨rfl, x1, rfl⟩) | ((with_reducible show bodyPost _ _ _ _ _ _); exact ret_38 rfl rfl (by simp [go_sem]) rfl ⟨by simp [go_sem], (by repeat (first | exact grA | apply grB | apply grC | apply grD))⟩))
theorem refPlain_any (w : World) : Calls Tryz.prog 56 #[] w (Gives w (.agg #[.int .i64 0, .string ByteArray.empty, .int .i64 0, .int .i64 1, .int .i64 0, .int .i64 1])) := refPlain0 w
/-- an element whose slices are rows of S -/
def ElQ (w : World) (S : Nat → Prop) (e : El) (cs : List Value) : Prop := ∃ (ka aa : Option Addr) (kc ac : Nat), cs = elO e ka aa kc ac ∧
  w.ownsRow 0 3 1 (.slice ka e.ks.length kc) e.ks.length (e.ks.map (Value.int .i64)) ∧ w.ownsRow 0 71 2 (.slice aa e.at'.length ac) e.at'.length (atC e.at') ∧
  (∀ g, (Value.slice ka e.ks.length kc).ownBlock = some g → S g) ∧ ∀ g, (Value.slice aa e.at'.length ac).ownBlock = some g → S g
theorem ElQ.elR {w : World} {S : Nat → Prop} {e : El} {cs : List Value} (h : ElQ w S e cs) : ElR w (fun _ => True) e cs := by
  obtain ⟨ka, aa, kc, ac, rfl, hk, ha, _, _⟩ := h
  exact ⟨ka, aa, kc, ac, rfl, IntsAt_own hk, at_slat ha⟩
theorem ElQ.keep {w W : World} {S S' : Nat → Prop} (hw : ∀ g, S g → W.row g = w.row g ∧ S' g) {e : El} {cs : List Value} (h : ElQ w S e cs) : ElQ W S' e cs := by
  obtain ⟨ka, aa, kc, ac, h1, hk, ha, h2, h3⟩ := h
  exact ⟨ka, aa, kc, ac, h1, ownsRow_row hk fun g hg => (hw g (h2 g hg)).1, ownsRow_row ha fun g hg => (hw g (h3 g hg)).1, fun g hg => (hw g (h2 g hg)).2, fun g hg => (hw g (h3 g hg)).2⟩
/-- a row of elements: what it owns is Q -/
structure RefAt (w : World) (t : Nat) (Q : Nat → Prop) (v : Value) (M : Dm) : Prop where
  head : w.row t = some (.cells #[v, .int .i64 M.next] 58)
  els : OwnAt w 0 49 11 (ElQ w (fun g => Q g ∧ g ≠ t ∧ v.ownBlock ≠ some g)) v M.els
  qt : Q t
  qv : ∀ g, v.ownBlock = some g → Q g ∧ g ≠ t
  qlt : ∀ k, Q k → k < w.heap.size
  elWf : ∀ e ∈ M.els, e.Wf
theorem RefAt.r {w : World} {t : Nat} {Q : Nat → Prop} {v : Value} {M : Dm} (h : RefAt w t Q v M) : RefR w t v M :=
  ⟨h.head, SlAt.keep (W := w) (h.els.slAt (by omega) fun _ _ => trivial) (fun _ _ _ => ⟨rfl, trivial⟩) fun _ _ _ hx => hx.elR⟩
/-- it stays where its blocks stay -/
theorem RefAt.keep {w W : World} {t : Nat} {Q : Nat → Prop} {v : Value} {M : Dm} (h : RefAt w t Q v M) (hr : ∀ k, Q k → W.row k = w.row k) (hs : w.heap.size ≤ W.heap.size) : RefAt W t Q v M := by
  refine ⟨(hr t h.qt).trans h.head, ?_, h.qt, h.qv, fun k hk => Nat.lt_of_lt_of_le (h.qlt k hk) hs, h.elWf⟩
  obtain ⟨css, h1, h2, h3⟩ := h.els
  exact ⟨css, h1, fun i x cs q1 q2 => ⟨(h2 i x cs q1 q2).1, (h2 i x cs q1 q2).2.keep fun g hg => ⟨hr g hg.1, hg⟩⟩, ownsRow_row h3 fun g hg => hr g (h.qv g hg).1⟩
theorem RefAt.grows {w W : World} {t : Nat} {Q : Nat → Prop} {v : Value} {M : Dm} (h : RefAt w t Q v M) (hg : w.grows W) : RefAt W t Q v M := h.keep (fun k hk => hg.row_eq (h.qlt k hk)) hg.below.size

end Go.Proofs.YtdbddnkjiehaiaaGreat

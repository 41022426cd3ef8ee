/- WALKS over jalousieref8: SetBox, Unset, Set. No condition but that a row of elements stands in memory. -/
import Derived.Test.YtdbddnkjiehaiaaGreatDomQc
import Derived.Test.YtdbddnkjiehaiaaGreatDomSp
set_option linter.unusedSimpArgs false
set_option linter.unusedVariables false
namespace Go.Proofs.YtdbddnkjiehaiaaGreat
open Go.Maps Go.RowKit Go.Sort
theorem RefAt.one {w W : World} {t : Nat} {Q Q' : Nat → Prop} {g cap k : Nat} {M : Dm} {e : El} (h : RefAt w t Q (.slice (some ⟨g, 0, none⟩) M.els.length cap) M) (hup : M.els.Pairwise fun a b => a.id < b.id) (hk : M.els[k]? = some e) (f : El → El) {j : Nat} {vs : List Value} (hj : j + vs.length ≤ 11)
    (hW : W.row g = (w.setCells g (k * 11 + j) vs).row g) (hrow : ∀ b, Q b → b ≠ g → W.row b = w.row b) (hQ : ∀ b, Q b → Q' b) (hQl : ∀ b, Q' b → b < W.heap.size)
    (he : ∀ cs, ElQ w (fun b => Q b ∧ b ≠ t ∧ b ≠ g) e cs → ElQ W (fun b => Q' b ∧ b ≠ t ∧ b ≠ g) (f e) (layL cs j vs)) (hew : (f e).Wf) : RefAt W t Q' (.slice (some ⟨g, 0, none⟩) M.els.length cap) ⟨M.root, M.next, updE M.els e.id f⟩ := by
  have hgq := h.qv g rfl
  have q1 : ∀ b, (Q b ∧ b ≠ t ∧ (Value.slice (some ⟨g, 0, none⟩) M.els.length cap).ownBlock ≠ some b) ↔ (Q b ∧ b ≠ t ∧ b ≠ g) := fun b => ⟨fun ⟨a, b', c⟩ => ⟨a, b', fun e => c (by rw [e]; rfl)⟩, fun ⟨a, b', c⟩ => ⟨a, b', fun e => c (by injection e with e; exact e.symm)⟩⟩
  have q2 : ∀ b, (Q' b ∧ b ≠ t ∧ (Value.slice (some ⟨g, 0, none⟩) M.els.length cap).ownBlock ≠ some b) ↔ (Q' b ∧ b ≠ t ∧ b ≠ g) := fun b => ⟨fun ⟨a, b', c⟩ => ⟨a, b', fun e => c (by rw [e]; rfl)⟩, fun ⟨a, b', c⟩ => ⟨a, b', fun e => c (by injection e with e; exact e.symm)⟩⟩
  have kp : ∀ {x : El} {cs : List Value}, ElQ w (fun b => Q b ∧ b ≠ t ∧ (Value.slice (some ⟨g, 0, none⟩) M.els.length cap).ownBlock ≠ some b) x cs → ElQ W (fun b => Q' b ∧ b ≠ t ∧ (Value.slice (some ⟨g, 0, none⟩) M.els.length cap).ownBlock ≠ some b) x cs := fun hx => hx.keep fun b hb => by
    obtain ⟨h1, h2, h3⟩ := (q1 b).1 hb
    exact ⟨hrow b h1 h3, (q2 b).2 ⟨hQ b h1, h2, h3⟩⟩
  have ho := OwnAt.lay (W := W) (e' := f e) (j := j) (vs := vs) h.els hk hj hW (fun x cs hx => kp hx) (fun cs _ hx => by
    have h1 : ElQ w (fun b => Q b ∧ b ≠ t ∧ b ≠ g) e cs := hx.keep fun b hb => ⟨rfl, (q1 b).1 hb⟩
    exact (he cs h1).keep fun b hb => ⟨rfl, (q2 b).2 hb⟩)
  have hlen : (updE M.els e.id f).length = M.els.length := by unfold updE; simp
  refine ⟨(hrow t h.qt (fun e => hgq.2 e.symm)).trans h.head, ?_, hQ t h.qt, fun b hb => ⟨hQ b (h.qv b hb).1, (h.qv b hb).2⟩, hQl, fun x hx => ?_⟩
  · show OwnAt W 0 49 11 _ _ (updE M.els e.id f)
    rw [updE_set hup hk f]
    exact ho
  · obtain ⟨y, hy, rfl⟩ := updE_mem.1 hx
    by_cases hye : y.id = e.id
    · obtain rfl := ids_inj hup hy (List.mem_of_getElem? hk) hye
      rw [if_pos rfl]; exact hew
    · rw [if_neg hye]; exact h.elWf y hy
/-- how an edit of the reference ends -/
def REdt (w : World) (t : Nat) (Q : Nat → Prop) (M' : Dm) (w' : World) : Prop := ∃ (Q' : Nat → Prop) (v' : Value), Chg Q w Q' w' ∧ RefAt w' t Q' v' M'
theorem REdt.no {w W : World} {t : Nat} {Q : Nat → Prop} {v : Value} {M : Dm} (h : RefAt w t Q v M) (hg : w.grows W) : REdt w t Q M W := ⟨Q, v, (Chg.refl _ w).grow hg, h.grows hg⟩
theorem grows_lay {w00 w : World} (h : w00.grows w) {g : Nat} (hg : w00.heap.size ≤ g) (o : Nat) (vs : List Value) : w00.grows (w.setCells g o vs) := World.grows.grown h (grownBy_lay g vs o w) (fun k hk => by cases hk; exact hg)
/-- one element's cells written, the last thing an edit does -/
theorem REdt.one {w w2 : World} {t : Nat} {Q : Nat → Prop} {g cap k : Nat} {M : Dm} {e : El} (h : RefAt w t Q (.slice (some ⟨g, 0, none⟩) M.els.length cap) M) (hg : w.grows w2) (hup : M.els.Pairwise fun a b => a.id < b.id) (hk : M.els[k]? = some e) (f : El → El) {j : Nat} {vs : List Value} (hj : j + vs.length ≤ 11)
    (he : ∀ cs, ElQ w2 (fun b => Q b ∧ b ≠ t ∧ b ≠ g) e cs → ElQ (w2.setCells g (k * 11 + j) vs) (fun b => (Q b ∨ w.heap.size ≤ b ∧ b < w2.heap.size) ∧ b ≠ t ∧ b ≠ g) (f e) (layL cs j vs)) (hew : (f e).Wf) : REdt w t Q ⟨M.root, M.next, updE M.els e.id f⟩ (w2.setCells g (k * 11 + j) vs) := by
  have h2 := h.grows hg
  have hgq := h.qv g rfl
  have hgl := h.qlt g hgq.1
  refine ⟨fun b => Q b ∨ w.heap.size ≤ b ∧ b < w2.heap.size, _, ⟨fun b hb => hb.imp id fun h => h.1, fun b hb hl => ?_, by rw [size_lay]; exact hg.below.size, fun w00 a1 a2 => grows_lay (a2.trans hg) (a1 g hgq.1) _ _⟩, RefAt.one h2 hup hk f hj rfl (fun b hb hne => row_layO g b hne _ _ _) (fun b hb => .inl hb) (fun b hb => ?_) he hew⟩
  · rw [row_layO g b (fun e => hb (by rw [e]; exact hgq.1))]; exact hg.row_eq hl
  · rw [size_lay]
    rcases hb with hb | hb
    · exact h2.qlt b hb
    · exact hb.2
theorem ref_slice {w : World} {t : Nat} {Q : Nat → Prop} {v : Value} {M : Dm} (h : RefAt w t Q v M) (hG : M.Good) : ∃ g cap, v = .slice (some ⟨g, 0, none⟩) M.els.length cap ∧ Shp w g (cap * 11) ∧ M.els.length ≤ cap := by
  obtain ⟨css, h1, h2, h3⟩ := h.els
  rcases h3.2 with ⟨_, h0⟩ | ⟨g, cap, cur, h0, hb, hgg, hnc, hcm, hcs, _⟩
  · exact absurd (List.length_eq_zero_iff.1 h0) (by
      obtain ⟨r, hr, _⟩ := hG.wf.rootE
      intro e; rw [e] at hr; cases hr)
  · exact ⟨g, cap, h0, ⟨cur, 49, hgg, hcs⟩, hnc⟩

set_option maxRecDepth 100000 in
set_option maxHeartbeats 8000000 in
theorem refSetBox_any (w : World) (t : Nat) (Q : Nat → Prop) (v : Value) (M : Dm) (h : RefAt w t Q v M) (hG : M.Good) (id : Int) (b : Bx) (hb : b.Wf) : Calls Tryz.prog 39 #[.pointer (some ⟨t, 0, none⟩), .int .i64 id, .agg #[.int .i64 b.ty, .string b.nm, .int .i64 b.a, .int .i64 b.b, .int .i64 b.c, .int .i64 b.d]] w fun r w' => r = .returned (.int .i64 (M.box id b (boxB b.ty b.nm.data.toList b.a b.b b.c b.d)).1) ∧ REdt w t Q (M.box id b (boxB b.ty b.nm.data.toList b.a b.b b.c b.d)).2 w' := by
  have HAT := Lib.hid (fun (W : World) (hW : w.grows W) (id : Int) => refAt_any W t v M (h.r.grows hW) hG.wf.few id)
  obtain ⟨ty, nm, b1, b2, b3, b4⟩ := b
  have hb' := hb
  obtain ⟨w0, w1, w2, w3, w4, w5⟩ := hb'
  have hmb := fun W => refBox_any ty nm b1 b2 b3 b4 W w1 w2.1 w2.2 w3.1 w3.2 w4.1 w4.2 w5.1 w5.2
  simp only at hmb ⊢
  have HB := Lib.hid hb
  have HR := Lib.hid h; have HGD := Lib.hid hG
  cases hat : M.at id with
  | none =>
    have hp : posE M.els id = -1 := posE_none (findE_none hat)
    have hbx : M.box id ⟨ty, nm, b1, b2, b3, b4⟩ (boxB ty nm.data.toList b1 b2 b3 b4) = (5, M) := by unfold Dm.box; rw [hat]
    rw [hbx]
    clear hb h hbx hmb hG hat w0 w1 w2 w3 w4 w5
    go_enter Tryz.func39, Tryz.ntmps39
    go_wp2_with (go_at_call 43; go_loud ((with_reducible refine (HAT.out _ (by repeat (with_reducible first | assumption | exact grA | apply grB | apply grC | apply grD | refine grE ?_ (by omega) _ | refine grF ?_ (by omega) _ _)) _).mono ?_); rw [hp]; rintro r w1 ⟨rfl, hg1⟩))
    go_ret
    exact ⟨rfl, REdt.no HR.out ((World.grows.alloc World.grows.refl _).trans hg1)⟩
  | some e =>
    obtain ⟨he, rfl⟩ := findE_some hat
    obtain ⟨k, hp, hkl, hke⟩ := posE_at hG.wf.up he
    obtain ⟨g, cap, rfl, hshp, hcap⟩ := ref_slice h hG
    have hfew := hG.wf.few
    have hkI : (k : Int) < (M.els.length : Int) := by omega
    have hgq := h.qv g rfl
    have htl := h.qlt t h.qt
    have hgl := h.qlt g hgq.1
    have HS := Lib.hid hshp
    have hew := h.elWf e he
    cases hok : boxB ty nm.data.toList b1 b2 b3 b4 with
    | false =>
      rw [hok] at hmb
      have hbx : M.box e.id ⟨ty, nm, b1, b2, b3, b4⟩ false = (8, M) := by unfold Dm.box; rw [hat]; rfl
      rw [hbx]
      have HMB := Lib.hid hmb
      clear hmb hbx hok hb h hG hat w0 w1 w2 w3 w4 w5 hshp
      go_enter Tryz.func39, Tryz.ntmps39
      go_upto_region 4 with (go_at_call 43; go_loud ((with_reducible refine (HAT.out _ (by repeat (with_reducible first | assumption | exact grA | apply grB | apply grC | apply grD | refine grE ?_ (by omega) _ | refine grF ?_ (by omega) _ _)) _).mono ?_); rw [hp]; rintro r w1 ⟨rfl, hg1⟩))
      have hg0 : w.grows w1 := (World.grows.alloc World.grows.refl _).trans hg1
      have hrb : w1.row w.heap.size = some (.cells #[.int .i64 ty, .string nm, .int .i64 b1, .int .i64 b2, .int .i64 b3, .int .i64 b4] 38) := (hg1.row_eq (by simp)).trans (by simp [go_sem])
      have zb := row_sz' hrb
      go_wp2_with (go_at_call 16; (with_reducible refine (HMB.out _).mono ?_); rintro e w1 ⟨rfl, x1, rfl⟩)
      go_ret
      exact ⟨rfl, REdt.no HR.out (by repeat (with_reducible first | assumption | exact grA | apply grB | apply grC | apply grD | refine grE ?_ (by omega) _ | refine grF ?_ (by omega) _ _))⟩
    | true =>
      rw [hok] at hmb
      have hbx : M.box e.id ⟨ty, nm, b1, b2, b3, b4⟩ true = (0, ⟨M.root, M.next, updE M.els e.id fun e => { e with bx := ⟨ty, nm, b1, b2, b3, b4⟩ }⟩) := by unfold Dm.box; rw [hat]; rfl
      rw [hbx]
      have HMB := Lib.hid hmb
      clear hmb hbx hok hb h hG hat w0 w1 w2 w3 w4 w5 hshp
      go_enter Tryz.func39, Tryz.ntmps39
      go_upto_region 4 with (go_at_call 43; go_loud ((with_reducible refine (HAT.out _ (by repeat (with_reducible first | assumption | exact grA | apply grB | apply grC | apply grD | refine grE ?_ (by omega) _ | refine grF ?_ (by omega) _ _)) _).mono ?_); rw [hp]; rintro r w1 ⟨rfl, hg1⟩))
      have hg0 : w.grows w1 := (World.grows.alloc World.grows.refl _).trans hg1
      have hrb : w1.row w.heap.size = some (.cells #[.int .i64 ty, .string nm, .int .i64 b1, .int .i64 b2, .int .i64 b3, .int .i64 b4] 38) := (hg1.row_eq (by simp)).trans (by simp [go_sem])
      have zb := row_sz' hrb
      go_upto_region 6 with (go_at_call 16; (with_reducible refine (HMB.out _).mono ?_); rintro e w1 ⟨rfl, x1, rfl⟩)
      have hg2 : w.grows (w1.plus x1) := World.grows.plus hg0 _
      have hrb2 : (w1.plus x1).row w.heap.size = _ := (World.grows.row_eq (World.grows.plus World.grows.refl _) zb.1).trans hrb
      generalize w1.plus x1 = w2 at *
      have zb2 := row_sz' hrb2
      have h2 := HR.out.grows hg2
      have hx2 := h2.head
      have zx2 := row_sz' hx2
      have hst : ∀ W, W.row g = w2.row g → (storeR 38 (.pointer (some ⟨g, k * 11 + 5, none⟩)) (.agg #[.int .i64 ty, .string nm, .int .i64 b1, .int .i64 b2, .int .i64 b3, .int .i64 b4])).run Tryz.prog W = .ok () (W.setCells g (k * 11 + 5) [.int .i64 ty, .string nm, .int .i64 b1, .int .i64 b2, .int .i64 b3, .int .i64 b4]) := fun W hW => by
        have hshp : Shp W g (cap * 11) := by
          obtain ⟨cur, e', q1, q2⟩ := HS.out
          exact ⟨cur, e', hW.trans ((hg2.row_eq hgl).trans q1), q2⟩
        exact run_storeR_seg (P := Tryz.prog) W 38 g (k * 11 + 5) 6 [.int .i64 ty, .string nm, .int .i64 b1, .int .i64 b2, .int .i64 b3, .int .i64 b4] rfl (by kernel_rfl) (by simp [Value.oneCell']) (hshp.okW (by have := Nat.mul_le_mul_right 11 hcap; omega))
      have hst1 := hst w2.drew rfl
      have H2 := Lib.hid h2
      clear h2 hrb zb hst
      go_region
      go_wp2_with fail
      go_ret
      refine ⟨rfl, REdt.one (w2 := w2.drew) HR.out (World.grows.drew hg2) HGD.out.wf.up hke (fun e => { e with bx := ⟨ty, nm, b1, b2, b3, b4⟩ }) (j := 5) (vs := [.int .i64 ty, .string nm, .int .i64 b1, .int .i64 b2, .int .i64 b3, .int .i64 b4]) (by simp) (fun cs hx => ?_) ?_⟩
      · obtain ⟨ka, aa, kc, ac, rfl, hk, ha, q1, q2⟩ := hx
        exact ⟨ka, aa, kc, ac, rfl, ownsRow_row hk fun b hb => row_layO g b (q1 b hb).2.2 _ _ _, ownsRow_row ha fun b hb => row_layO g b (q2 b hb).2.2 _ _ _, fun b hb => ⟨.inl (q1 b hb).1, (q1 b hb).2⟩, fun b hb => ⟨.inl (q2 b hb).1, (q2 b hb).2⟩⟩
      · exact ⟨hew.1, hew.2.1, hew.2.2.1, hew.2.2.2.1, hew.2.2.2.2.1, HB.out, hew.2.2.2.2.2.2⟩

/-- the attributes' slice written anew -/
theorem ElQ.attrs {w w2 : World} {t g o : Nat} {Q : Nat → Prop} {e : El} {cs : List Value} {l : List (ByteArray × ByteArray)} {a : Option Addr} {c : Nat} (hx : ElQ w2 (fun b => Q b ∧ b ≠ t ∧ b ≠ g) e cs) (ht : t < w.heap.size) (hg : g < w.heap.size) (hv : w2.ownsRow w.heap.size 71 2 (.slice a l.length c) l.length (atC l)) :
    ElQ (w2.setCells g o [.slice a l.length c]) (fun b => (Q b ∨ w.heap.size ≤ b ∧ b < w2.heap.size) ∧ b ≠ t ∧ b ≠ g) { e with at' := l } (layL cs 4 [.slice a l.length c]) := by
  obtain ⟨ka2, aa2, kc2, ac2, rfl, hk, _, q1, _⟩ := hx
  exact ⟨ka2, a, kc2, c, rfl, ownsRow_row hk fun b hb => row_layO g b (q1 b hb).2.2 _ _ _, World.ownsRow.mono_base (Nat.zero_le _) (ownsRow_row hv fun b hb => row_layO g b (fun h => by have := (hv.lt b hb).1; omega) _ _ _), fun b hb => ⟨.inl (q1 b hb).1, (q1 b hb).2⟩, fun b hb => by
    have := hv.lt b hb
    exact ⟨.inr this, by omega, by omega⟩⟩
theorem unset_len {l : List (ByteArray × ByteArray)} {n : ByteArray} : (l.filter fun x => decide (x.1 ≠ n)).length = l.length ↔ (l.all fun x => decide (x.1 ≠ n)) = true := by
  rw [List.length_filter_eq_length_iff, List.all_eq_true]

set_option maxRecDepth 100000 in
set_option maxHeartbeats 8000000 in
theorem refUnset_any (w : World) (t : Nat) (Q : Nat → Prop) (v : Value) (M : Dm) (h : RefAt w t Q v M) (hG : M.Good) (id : Int) (n : ByteArray) : Calls Tryz.prog 38 #[.pointer (some ⟨t, 0, none⟩), .int .i64 id, .string n] w fun r w' => r = .returned (.int .i64 (M.unset id n).1) ∧ REdt w t Q (M.unset id n).2 w' := by
  have HAT := Lib.hid (fun (W : World) (hW : w.grows W) (id : Int) => refAt_any W t v M (h.r.grows hW) hG.wf.few id)
  have HR := Lib.hid h; have HGD := Lib.hid hG
  cases hat : M.at id with
  | none =>
    have hp : posE M.els id = -1 := posE_none (findE_none hat)
    have hbx : M.unset id n = (5, M) := by unfold Dm.unset; rw [hat]
    rw [hbx]
    clear h hbx hG hat
    go_enter Tryz.func38, Tryz.ntmps38
    go_wp2_with (go_at_call 43; go_loud ((with_reducible refine (HAT.out _ (by repeat (with_reducible first | assumption | exact grA | apply grB | apply grC | apply grD | refine grE ?_ (by omega) _ | refine grF ?_ (by omega) _ _)) _).mono ?_); rw [hp]; rintro r w1 ⟨rfl, hg1⟩))
    go_ret
    exact ⟨rfl, REdt.no HR.out hg1⟩
  | some e =>
    obtain ⟨he, rfl⟩ := findE_some hat
    obtain ⟨k, hp, hkl, hke⟩ := posE_at hG.wf.up he
    obtain ⟨g, cap, rfl, hshp, hcap⟩ := ref_slice h hG
    have hfew := hG.wf.few
    have hkI : (k : Int) < (M.els.length : Int) := by omega
    have hgq := h.qv g rfl
    have HS := Lib.hid hshp
    have hew := h.elWf e he
    have h16 := hew.2.2.2.2.2.2.1
    rcases (els_get h.r.els).2 with h0 | ⟨g1, o1, hgo, e1⟩
    · rw [h0] at hkl; simp at hkl
    injection hgo with hgo
    injection hgo with hgo1 hgo2
    subst hgo1; subst hgo2
    obtain ⟨cs, l1, k1, ka, aa, kc, ac, rfl, _, hats⟩ := e1 k _ hke
    have HA := Lib.hid (ats_get hats).2
    have hans : M.unset e.id n = if (e.at'.filter fun x => decide (x.1 ≠ n)).length = e.at'.length then (10, M) else (0, ⟨M.root, M.next, updE M.els e.id fun e => { e with at' := e.at'.filter fun x => decide (x.1 ≠ n) }⟩) := by
      unfold Dm.unset; rw [hat]; simp only
      by_cases hc : (e.at'.filter fun x => decide (x.1 ≠ n)).length = e.at'.length
      · rw [if_pos hc, if_pos (unset_len.1 hc)]
      · rw [if_neg hc, if_neg (fun h => hc (unset_len.2 h))]
    have HANS := Lib.hid hans
    rw [Nat.zero_add] at k1
    have K1 := Lib.hid k1
    clear h hG hat hans hshp hats e1 k1
    go_enter Tryz.func38, Tryz.ntmps38
    go_upto_region 5 with (go_at_call 43; go_loud ((with_reducible refine (HAT.out _ (by repeat (with_reducible first | assumption | exact grA | apply grB | apply grC | apply grD | refine grE ?_ (by omega) _ | refine grF ?_ (by omega) _ _)) _).mono ?_); rw [hp]; rintro r w1 ⟨rfl, hg1⟩))
    have hx1 := (HR.out.grows hg1).head
    have zx1 := row_sz' hx1
    have k2 := K1.out.grows hg1
    have z2 := lt_sz k2.lt
    have c2 := k2.cell (j := 4) rfl
    rw [World.cell?_row] at c2
    go_upto_region 6 with fail
    go_loopg [8, 25] e.at'.length (fun gn v8 v25 wj => ∃ (i : Nat) (ll : List (ByteArray × ByteArray)), Hid (gn + i = e.at'.length ∧ i ≤ e.at'.length) ∧ Hid (ll = (e.at'.take i).filter fun x => decide (x.1 ≠ n)) ∧ v25 = .int .i64 i ∧ w.grows wj ∧ Hid (wj.ownsRow w.heap.size 71 2 v8 ll.length (atC ll)))
    case atStart => exact ⟨0, [], Lib.hid ⟨by simp, Nat.zero_le _⟩, Lib.hid rfl, by go_num, hg1, Lib.hid (World.ownsRow_nil _ _ _ _)⟩
    case round =>
      obtain ⟨i, ll, HQ, HLL, rfl, hgj, HV⟩ := hrel
      obtain ⟨j1, j2⟩ := HQ.out
      by_cases hlt : i < e.at'.length
      · have i1 : (i : Int) < (e.at'.length : Int) := by omega
        rcases HA.out with h0 | ⟨p3, o3, rfl, e3⟩
        · rw [h0] at hlt; simp at hlt
        have hgt := List.getElem?_eq_getElem hlt
        have k3 := (e3 i _ hgt).grows hgj
        have hlen : ll.length ≤ 16 := by rw [HLL.out]; exact Nat.le_trans (List.length_filter_le _ _) (by rw [List.length_take]; omega)
        have HTK := Lib.hid (show (if e.at'[i].1 = n then ll else ll ++ [e.at'[i]]) = (e.at'.take (i + 1)).filter (fun x => decide (x.1 ≠ n)) by
          rw [List.take_add_one, hgt, List.filter_append, ← HLL.out]
          by_cases hx : e.at'[i].1 = n <;> simp [hx])
        generalize e.at'[i] = x at *
        have z3 := lt_sz k3.lt
        obtain ⟨u1, u2⟩ := k3
        rw [show [Value.string x.1, Value.string x.2].length = 2 from rfl] at u1 u2
        obtain ⟨a6, c6, rfl⟩ := own_slice HV.out
        have hvo := HV.out
        have s03 := hgj.below.size
        clear e3 hgt HV hx1 zx1 c2 k2 z2 HLL
        by_cases hx : x.1 = n
        · rw [if_pos hx] at HTK
          have hxb : (x.1.toList == n.toList) = true := by rw [hx]; simp
          have HVO := Lib.hid hvo
          clear hvo hx
          go_wp2_with fail
          go_roundg (e.at'.length - (i + 1))
          case measure => omega
          case rel => exact ⟨i + 1, ll, Lib.hid ⟨by omega, by omega⟩, HTK, by go_num, (by repeat (with_reducible first | assumption | exact grA | apply grB | apply grC | apply grD | refine grE ?_ (by omega) _ | refine grF ?_ (by omega) _ _)), Lib.hid (HVO.out.grows (by repeat (with_reducible first | assumption | exact grA | apply grB | apply grC | apply grD | refine grE ?_ (by omega) _ | refine grF ?_ (by omega) _ _)))⟩
        · rw [if_neg hx] at HTK
          have hxn : ¬ (x.1.toList = n.toList) := fun h => hx (by
            obtain ⟨⟨a⟩, v⟩ := x
            obtain ⟨b⟩ := n
            have h' : a.toList = b.toList := by simpa [ByteArray.toList_eq] using h
            rw [Array.toList_inj.1 h'])
          have hxb : (x.1.toList == n.toList) = false := by simpa using hxn
          clear hx hxn
          go_wp2_with (at_builtin; refine wpList_app w (w.heap.size) rfl (.tmp 33) (.tmp 35) _ rfl 71 (.agg #[.string ByteArray.empty, .string ByteArray.empty]) 2 32 Tryz.underlying47 (by kernel_rfl) rfl (by omega) (by omega) _ ll.length _ rfl (hvo.grows (by repeat (with_reducible first | assumption | exact grA | apply grB | apply grC | apply grD | refine grE ?_ (by omega) _ | refine grF ?_ (by omega) _ _))) _ 1 _ [.string x.1, .string x.2] rfl rfl (cells_of_row (e := 71) (fr := (0, 0)) (by simp [go_sem])) (by simp [Value.oneCell']) (by omega) (by repeat (with_reducible first | assumption | exact grA | apply grB | apply grC | apply grD | refine grE ?_ (by omega) _ | refine grF ?_ (by omega) _ _)) (by omega) (by simp <;> omega) ?_; intro v' w' hg' HO' HR' HG' HA')
          have HN := Lib.hid HO'.out
          rw [show atC ll ++ [.string x.1, .string x.2] = atC (ll ++ [x]) by rw [atC_app]; rfl, show ll.length + 1 = (ll ++ [x]).length by simp] at HN
          clear HO' HR' HG' HA'
          go_roundg (e.at'.length - (i + 1))
          case measure => omega
          case rel => exact ⟨i + 1, ll ++ [x], Lib.hid ⟨by omega, by omega⟩, HTK, by go_num, hg', HN⟩
      · have i1 : ¬ (i : Int) < (e.at'.length : Int) := by omega
        obtain rfl : i = e.at'.length := by omega
        have HLE := Lib.hid (show ll = e.at'.filter fun x => decide (x.1 ≠ n) by rw [HLL.out, List.take_length])
        have hx3 := (HR.out.grows hgj).head
        have zx3 := row_sz' hx3
        have k3 := K1.out.grows hgj
        have z3 := lt_sz k3.lt
        have c3 := k3.cell (j := 4) rfl
        rw [World.cell?_row] at c3
        have hf4 : frozenR (k * 11 + 4) (wr.row g) = false := by
          obtain ⟨cur, e', q1, q2⟩ := HS.out
          rw [(hgj.row_eq (HR.out.qlt g hgq.1)).trans q1]; simp [frozenR]
        obtain ⟨a6, c6, rfl⟩ := own_slice HV.out
        clear HLL hx1 zx1 c2 k2 z2
        by_cases hc : ll.length = e.at'.length
        · have hcb : (((ll.length : Nat) : Int) == ((e.at'.length : Nat) : Int)) = true := by rw [hc]; simp
          have HC := Lib.hid hc
          clear hc
          go_wp2_with fail
          go_ret
          have ha := HANS.out
          rw [← HLE.out, if_pos HC.out] at ha
          rw [ha]
          exact ⟨rfl, REdt.no HR.out hgj⟩
        · have hcb : (((ll.length : Nat) : Int) == ((e.at'.length : Nat) : Int)) = false := beq_eq_false_iff_ne.2 (by omega)
          have hci : ¬ ((ll.length : Nat) : Int) = ((e.at'.length : Nat) : Int) := by omega
          have HC := Lib.hid hc
          clear hc
          go_wp2_with fail
          go_ret
          have ha := HANS.out
          rw [← HLE.out, if_neg HC.out] at ha
          rw [ha]
          refine ⟨rfl, REdt.one (w2 := wr) HR.out hgj HGD.out.wf.up hke (fun e => { e with at' := e.at'.filter fun x => decide (x.1 ≠ n) }) (j := 4) (vs := [.slice a6 ll.length c6]) (by simp) (fun cs hx => ?_) ?_⟩
          · have hle := HLE.out
            subst hle
            exact ElQ.attrs hx (HR.out.qlt t HR.out.qt) (HR.out.qlt g hgq.1) HV.out
          · have h5 : (e.at'.filter fun x => decide (x.1 ≠ n)).length ≤ 16 := Nat.le_trans (List.length_filter_le _ _) h16
            exact ⟨hew.1, hew.2.1, hew.2.2.1, hew.2.2.2.1, fun x hx => hew.2.2.2.2.1 x (List.mem_filter.1 hx).1, hew.2.2.2.2.2.1, h5, hew.2.2.2.2.2.2.2⟩
end Go.Proofs.YtdbddnkjiehaiaaGreat

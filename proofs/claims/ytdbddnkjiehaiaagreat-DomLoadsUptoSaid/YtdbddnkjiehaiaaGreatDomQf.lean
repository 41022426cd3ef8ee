/- LAWS: what an edit of the reference leaves of the rest; an element more at the end of its row. No condition. -/
import Derived.Test.YtdbddnkjiehaiaaGreatDomQe
set_option linter.unusedSimpArgs false
set_option linter.unusedVariables false
namespace Go.Proofs.YtdbddnkjiehaiaaGreat
open Go.Maps Go.RowKit Go.Sort
/-- a world that writes to rows of Q, and to new ones, have led to -/
structure Mvd (Q : Nat → Prop) (w W : World) : Prop where
  row : ∀ b, ¬ Q b → b < w.heap.size → W.row b = w.row b
  size : w.heap.size ≤ W.heap.size
  gr : ∀ w00 : World, (∀ b, Q b → w00.heap.size ≤ b) → w00.grows w → w00.grows W
theorem Mvd.refl (Q : Nat → Prop) (w : World) : Mvd Q w w := ⟨fun _ _ _ => rfl, Nat.le_refl _, fun _ _ h => h⟩
theorem Mvd.grow {Q : Nat → Prop} {w W W' : World} (h : Mvd Q w W) (hg : W.grows W') : Mvd Q w W' :=
  ⟨fun b hb hl => (hg.row_eq (Nat.lt_of_lt_of_le hl h.size)).trans (h.row b hb hl), Nat.le_trans h.size hg.below.size, fun w00 a1 a2 => (h.gr w00 a1 a2).trans hg⟩
theorem Mvd.grown {Q : Nat → Prop} {w W W' : World} (h : Mvd Q w W) {r : Option Nat} (hg : W.grownBy W' r) (hr : ∀ g, r = some g → Q g ∨ w.heap.size ≤ g) : Mvd Q w W' :=
  ⟨fun b hb hl => (World.row_grow hg (Nat.lt_of_lt_of_le hl h.size) (fun e => by
    rcases hr b e.symm with q | q
    · exact hb q
    · omega)).trans (h.row b hb hl), Nat.le_trans h.size hg.size, fun w00 a1 a2 => World.grows.grown (h.gr w00 a1 a2) hg fun k hk => (hr k hk).elim (a1 k) fun q => Nat.le_trans a2.below.size q⟩
theorem Mvd.lay {Q : Nat → Prop} {w W : World} (h : Mvd Q w W) (g o : Nat) (vs : List Value) (hg : Q g ∨ w.heap.size ≤ g) : Mvd Q w (W.setCells g o vs) := h.grown (grownBy_lay g vs o W) fun k hk => by cases hk; exact hg
theorem Mvd.cell {Q : Nat → Prop} {w W : World} (h : Mvd Q w W) (g o : Nat) (v : Value) (hg : Q g ∨ w.heap.size ≤ g) : Mvd Q w (W.setCell ⟨g, o, none⟩ v) := h.grown (grownBy_cell W g o v) fun k hk => by cases hk; exact hg
theorem Mvd.chg {Q : Nat → Prop} {w W : World} (h : Mvd Q w W) : Chg Q w (fun b => Q b ∨ w.heap.size ≤ b ∧ b < W.heap.size) W := ⟨fun _ hb => hb.imp id fun h => h.1, h.row, h.size, h.gr⟩
/-- the next id written -/
theorem RefAt.nextS {w : World} {t : Nat} {Q : Nat → Prop} {v : Value} {M : Dm} (h : RefAt w t Q v M) (n : Int) : RefAt (w.setCell ⟨t, 1, none⟩ (.int .i64 n)) t Q v ⟨M.root, n, M.els⟩ := by
  have hr : ∀ b, b ≠ t → (w.setCell ⟨t, 1, none⟩ (.int .i64 n)).row b = w.row b := fun b hb => by rw [World.row_setCell, if_neg hb]
  refine ⟨by rw [World.row_setCell, if_pos rfl, h.head]; rfl, ?_, h.qt, h.qv, fun k hk => by rw [World.setCell_size' _ _ _]; exact h.qlt k hk, h.elWf⟩
  obtain ⟨css, h1, h2, h3⟩ := h.els
  exact ⟨css, h1, fun i x cs q1 q2 => ⟨(h2 i x cs q1 q2).1, (h2 i x cs q1 q2).2.keep fun g hg => ⟨hr g hg.2.1, hg⟩⟩, ownsRow_row h3 fun g hg => hr g (h.qv g hg).2⟩
/-- the elements' slice written -/
theorem RefAt.anew {w W : World} {t : Nat} {Q Q' : Nat → Prop} {v v' : Value} {M : Dm} {l : List El} {css : List (List Value)} (h : RefAt w t Q v M) (hlen : css.length = l.length)
    (hcs : ∀ (i : Nat) (x : El) (cs : List Value), l[i]? = some x → css[i]? = some cs → cs.length = 11 ∧ (ElQ w (fun g => Q g ∧ g ≠ t ∧ v.ownBlock ≠ some g) x cs)) (ho : W.ownsRow 0 49 11 v' l.length css.flatten) (hl : ∀ x ∈ l, x.Wf)
    (hA : v'.ownBlock = v.ownBlock ∨ ∀ nb, v'.ownBlock = some nb → w.heap.size ≤ nb) (hrow : ∀ b, Q b → b ≠ t → v.ownBlock ≠ some b → W.row b = w.row b) (hrt : W.row t = some (.cells #[v', .int .i64 M.next] 58))
    (hQ : ∀ b, Q b → Q' b) (hQn : ∀ b, w.heap.size ≤ b → b < W.heap.size → Q' b) (hql : ∀ b, Q' b → b < W.heap.size) : RefAt W t Q' v' ⟨M.root, M.next, l⟩ := by
  have hne : ∀ g, v'.ownBlock = some g → Q' g ∧ g ≠ t := fun g hg => by
    rcases hA with hA | hA
    · have := h.qv g (hA ▸ hg); exact ⟨hQ g this.1, this.2⟩
    · have h1 := hA g hg
      have h2 := (ho.lt g hg).2
      have h3 := h.qlt t h.qt
      exact ⟨hQn g h1 h2, by omega⟩
  refine ⟨hrt, ⟨css, hlen, fun i x cs q1 q2 => ⟨(hcs i x cs q1 q2).1, (hcs i x cs q1 q2).2.keep fun g hg => ⟨hrow g hg.1 hg.2.1 hg.2.2, hQ g hg.1, hg.2.1, fun e => ?_⟩⟩, ho⟩, hQ t h.qt, hne, hql, hl⟩
  rcases hA with hA | hA
  · exact hg.2.2 (hA ▸ e)
  · have := hA g e
    have := h.qlt g hg.1
    omega
/-- one element's kids, as the elements' row has them -/
theorem RefAt.parts {w : World} {t : Nat} {Q : Nat → Prop} {g cap k : Nat} {M : Dm} {e : El} (h : RefAt w t Q (.slice (some ⟨g, 0, none⟩) M.els.length cap) M) (hk : M.els[k]? = some e) : ∃ (cur : Array Value) (ka : Option Addr) (kc : Nat), w.row g = some (.cells cur 49) ∧ cur.size = cap * 11 ∧ cur[k * 11 + 3]? = some (.slice ka e.ks.length kc) ∧
    w.ownsRow 0 3 1 (.slice ka e.ks.length kc) e.ks.length (e.ks.map (Value.int .i64)) ∧ ∀ b, (Value.slice ka e.ks.length kc).ownBlock = some b → Q b ∧ b ≠ t ∧ b ≠ g := by
  obtain ⟨css, l1, l2, l3⟩ := h.els
  have hkl := (List.getElem?_eq_some_iff.1 hk).1
  have hck : css[k]? = some css[k] := List.getElem?_eq_getElem (by omega)
  obtain ⟨lc, ka, aa, kc, ac, ecs, hks, hats, qk, qa⟩ := l2 k e _ hk hck
  rcases l3.2 with ⟨h0, _⟩ | ⟨g', cap', cur, h0, _, h1, h5, _, h2, h3⟩
  · cases h0
  injection h0 with h0 _ hc
  injection h0 with h0
  injection h0 with h0
  subst h0; subst hc
  refine ⟨cur, ka, kc, h1, h2, ?_, hks, fun b hb => ⟨(qk b hb).1, (qk b hb).2.1, fun e => (qk b hb).2.2 (by rw [e]; rfl)⟩⟩
  have hlen : ∀ c ∈ css, c.length = 11 := fun c hc => by
    obtain ⟨i, hi, rfl⟩ := List.mem_iff_getElem.1 hc
    exact (l2 i M.els[i] _ (List.getElem?_eq_getElem (by omega)) (List.getElem?_eq_getElem hi)).1
  have hf := flatten_get css k _ 3 hlen hck (by omega)
  rw [← h3, List.getElem?_take, if_pos (by omega), ecs] at hf
  rw [← Array.getElem?_toList, hf]; rfl
theorem take_ints {w : World} {a : Option Addr} {c : Nat} {l : List Int} (h : IntsAt w (.slice a l.length c) l) {n : Nat} (hn : n ≤ l.length) : IntsAt w (.slice a (l.take n).length c) (l.take n) := by
  obtain ⟨a', c', e, h1, h2, h3⟩ := h
  injection e with e1 e2 e3
  subst e1; subst e3
  refine ⟨a, c, rfl, by rw [List.length_take]; omega, h2, ?_⟩
  rcases h3 with h3 | ⟨g, o, q1, q2, q3⟩
  · exact .inl (by rw [h3]; simp)
  · refine .inr ⟨g, o, q1, q2, fun i x hx => q3 i x ?_⟩
    rw [List.getElem?_take] at hx
    split at hx
    · exact hx
    · cases hx
theorem drop_ints {w : World} {p o c : Nat} {l : List Int} (h : IntsAt w (.slice (some ⟨p, o, none⟩) l.length c) l) {n : Nat} (hn : n ≤ l.length) : IntsAt w (.slice (some ⟨p, o + n, none⟩) (l.drop n).length (c - n)) (l.drop n) := by
  obtain ⟨a', c', e, h1, h2, h3⟩ := h
  injection e with e1 e2 e3
  subst e1; subst e3
  refine ⟨_, c - n, rfl, by rw [List.length_drop]; omega, by omega, ?_⟩
  rcases h3 with h3 | ⟨g, o', q1, q2, q3⟩
  · exact .inl (by rw [h3]; simp)
  · injection q1 with q1
    injection q1 with q1 q1'
    subst q1; subst q1'
    refine .inr ⟨p, o + n, rfl, q2, fun i x hx => ?_⟩
    rw [List.getElem?_drop] at hx
    have := q3 (n + i) x hx
    rw [show o + (n + i) * 1 = o + n + i * 1 by omega] at this
    exact this
end Go.Proofs.YtdbddnkjiehaiaaGreat

/- LAWS: append onto a slice that has no room, of elements of n cells: a row of its own. No condition; laws over any program. -/
import Derived.Test.YtdbddnkjiehaiaaGreatIntsApp
set_option linter.unusedSimpArgs false
set_option linter.unusedVariables false
namespace Go
open Go.RowKit
theorem SlAt.newsC {α : Type} {w : World} {S : Nat → Prop} {n : Nat} {R : α → List Value → Prop} {a : Option Addr} {m c : Nat} {l : List α} (hn : 0 < n) (C : α → List Value) (hC : ∀ x cs, R x cs → cs = C x) (h : SlAt w S n R (.slice a m c) l) :
    m = l.length ∧ (∀ x ∈ l, R x (C x) ∧ (C x).length = n) ∧ (l.flatMap C).length = l.length * n ∧ (l = [] ∨ ∃ ad, a = some ad ∧ ∀ j u, (l.flatMap C)[j]? = some u → w.cell? (ad.add j) = some u) := by
  obtain ⟨rfl, css, h1, h2, h3, h4⟩ := h.cells hn
  have e : css = l.map C := by
    apply List.ext_getElem?
    intro i
    rw [List.getElem?_map]
    cases hx : l[i]? with
    | none => show css[i]? = none; rw [List.getElem?_eq_none_iff] at hx ⊢; omega
    | some x =>
      have hi : i < css.length := by have := (List.getElem?_eq_some_iff.1 hx).1; omega
      have hc := List.getElem?_eq_getElem hi
      rw [hc, hC x _ (h2 i x _ hx hc).2]; rfl
  subst e
  rw [← List.flatMap_def] at h3 h4
  refine ⟨rfl, fun x hx => ?_, h3, ?_⟩
  · obtain ⟨i, hi, rfl⟩ := List.mem_iff_getElem.1 hx
    have := h2 i l[i] (C l[i]) (List.getElem?_eq_getElem hi) (by rw [List.getElem?_map, List.getElem?_eq_getElem hi]; rfl)
    exact ⟨this.2, this.1⟩
  · rcases h4 with h | h
    · exact .inl (List.length_eq_zero_iff.1 h)
    · exact .inr h
theorem own_slat {α : Type} {w : World} {B n : Nat} {e : TypeId} {R : α → List Value → Prop} {v : Value} {l : List α} (hn : 0 < n) (C : α → List Value) (hR : ∀ x ∈ l, R x (C x) ∧ (C x).length = n) (h : w.ownsRow B e n v l.length (l.flatMap C)) : SlAt w (fun _ => True) n R v l := by
  have ho : OwnAt w B e n R v l := by
    refine ⟨l.map C, by simp, fun i x cs h1 h2 => ?_, by rw [← List.flatMap_def]; exact h⟩
    rw [List.getElem?_map, h1] at h2
    cases h2
    have := hR x (List.mem_of_getElem? h1)
    exact ⟨this.2, this.1⟩
  exact ho.slAt hn fun _ _ => trivial
theorem run_append_fullN {α : Type} {P : Program} (w : World) (t ty e : TypeId) {n by' : Nat} {z : Value} (R : α → List Value → Prop) (C : α → List Value) (ht : P.underlying t = some (.slice e)) (hi : (P.info? e).map (fun i => (i.zero, i.size, i.bytes)) = some (some z, n, by'))
    (hzs : z.cells.size = n) (hn : 0 < n) (hby : by' ≤ 1048576) (hC : ∀ x cs, R x cs → cs = C x) (h1C : ∀ x u, u ∈ C x → u.oneCell' = true)
    {A B : Option Addr} {k m c : Nat} {l r : List α} (hl : SlAt w (fun _ => True) n R (.slice A k k) l) (hr : SlAt w (fun _ => True) n R (.slice B m c) r) (hnm : l.length + r.length ≤ 67108864) :
    ∃ v' w', (Builtin.append_ #[t, t] ty #[.slice A k k, .slice B m c]).run P w = .ok v' w' ∧ w.grows w' ∧ SlAt w' (fun _ => True) n R v' (l ++ r) := by
  obtain ⟨i, hi0, hz0, hz1, hz2⟩ := info_parts hi
  obtain ⟨rfl, hRl, hll, hA⟩ := hl.newsC hn C hC
  obtain ⟨rfl, hRr, hlr, hB⟩ := hr.newsC hn C hC
  have hbb : (l.length + r.length) * by' ≤ 140737488355328 := Nat.le_trans (Nat.mul_le_mul hnm hby) (by decide)
  rcases hB with rfl | ⟨b, rfl, hb⟩
  · refine ⟨.slice A l.length l.length, w, ?_, World.grows.refl, by rw [List.append_nil]; exact hl⟩
    rcases hA with rfl | ⟨ad, rfl, _⟩
    · cases A <;> cases B <;> simp [Builtin.append_, run_underlying ht, sizeOf, typeInfo, hi0, Builtin.lenOf, Builtin.firstCells, storeCells, load_none]
    · cases B <;> simp [Builtin.append_, run_underlying ht, sizeOf, typeInfo, hi0, Builtin.lenOf, Builtin.firstCells, storeCells, load_none]
  · by_cases hr0 : r = []
    · subst hr0
      refine ⟨.slice A l.length l.length, w, ?_, World.grows.refl, by rw [List.append_nil]; exact hl⟩
      rcases hA with rfl | ⟨ad, rfl, _⟩
      · cases A <;> simp [Builtin.append_, run_underlying ht, sizeOf, typeInfo, hi0, Builtin.lenOf, Builtin.firstCells, storeCells, load_none]
      · simp [Builtin.append_, run_underlying ht, sizeOf, typeInfo, hi0, Builtin.lenOf, Builtin.firstCells, storeCells, load_none]
    · have hpos : 0 < r.length := List.length_pos_iff.2 hr0
      have h1c : ∀ u ∈ r.flatMap C, u.oneCell' = true := fun u hu => by
        obtain ⟨x, _, hx⟩ := List.mem_flatMap.1 hu; exact h1C x u hx
      have fin : ∀ v' w', w'.ownsRow w.heap.size e n v' (l.length + r.length) (l.flatMap C ++ r.flatMap C) → w.grownBy w' none → w.grows w' ∧ SlAt w' (fun _ => True) n R v' (l ++ r) := fun v' w' h hg => by
        refine ⟨World.grows.grown World.grows.refl hg (fun _ h => by cases h), own_slat (B := w.heap.size) (e := e) hn C (fun x hx => ?_) ?_⟩
        · rcases List.mem_append.1 hx with hx | hx
          · exact hRl x hx
          · exact hRr x hx
        · rw [List.length_append, List.flatMap_append]; exact h
      cases A with
      | some ad =>
        have holds : ∀ j u, (l.flatMap C)[j]? = some u → w.cell? (ad.add j) = some u := by
          rcases hA with rfl | ⟨ad', e', h⟩
          · intro j u hj; simp at hj
          · cases e'; exact h
        obtain ⟨v', w', hrun, r1, r2⟩ := run_append_arg_grows (P := P) w t ty e i z n by' ht hi0 hz0 hz1 hz2 hzs hn ad l.length l.length (l.flatMap C) hll holds b r.length c (r.flatMap C) hlr hb (by omega) (by simp only [maxLen]; omega) hbb
        exact ⟨v', w', hrun, fin v' w' r1 r2⟩
      | none =>
        obtain rfl : l = [] := by
          rcases hA with h | ⟨ad', e', _⟩
          · exact h
          · cases e'
        obtain ⟨v', w', hrun, r1, r2, _⟩ := run_append_own (P := P) w w.heap.size t ty e i z n by' ht hi0 hz0 hz1 hz2 hzs hn (.slice none 0 0) 0 [] (World.ownsRow_nil w _ e n) b r.length c (r.flatMap C) hlr hb h1c (by simp only [maxLen]; omega) (by simpa using hbb) (Nat.le_refl _)
        exact ⟨v', w', hrun, fin v' w' (by simpa using r1) r2⟩
/-- the same, as a step of a walk -/
theorem wpList_appFullN {α : Type} {P : Program} {w : World} {ops : Array Oper} {rest : List Oper} {o : Oper} {a : Act} {Q : Exit → Act → World → Prop} (hgd : o.guard = none) (s x : Operand) (t : TypeId)
    (ho : o.op = .call { callee := .builtin .append, args := #[s, x], argTypes := #[t, t] })
    (e : TypeId) {n by' : Nat} {z : Value} (R : α → List Value → Prop) (C : α → List Value) (ht : P.underlying t = some (.slice e)) (hi : (P.info? e).map (fun i => (i.zero, i.size, i.bytes)) = some (some z, n, by'))
    (hzs : z.cells.size = n) (hn : 0 < n) (hby : by' ≤ 1048576) (hC : ∀ x cs, R x cs → cs = C x) (h1C : ∀ x u, u ∈ C x → u.oneCell' = true)
    {A B : Option Addr} {k m c : Nat} {l r : List α} (hs : a.eval s = .slice A k k) (hl : SlAt w (fun _ => True) n R (.slice A k k) l) (hx : a.eval x = .slice B m c) (hr : SlAt w (fun _ => True) n R (.slice B m c) r) (hnm : l.length + r.length ≤ 67108864)
    (h : ∀ A' n' c' w', Hid (n' = l.length + r.length) → w.grows w' → Hid (SlAt w' (fun _ => True) n R (.slice A' n' c') (l ++ r)) → wpList P ops Q rest (a.put o.dst (.slice A' n' c')) w') :
    wpList P ops Q (o :: rest) a w := by
  refine wpList_plain hgd fun K hK => ?_
  obtain ⟨v', w', hrun, h2, h3⟩ := run_append_fullN (P := P) w t o.type e R C ht hi hzs hn hby hC h1C hl hr hnm
  unfold Oper.wp execOp
  simp only [ho, resolve, invoke, builtin, Sem.run_bind, Sem.run_pure, Result.andThen_ok, List.map_toArray, List.map_cons, List.map_nil, hs, hx, hrun]
  obtain ⟨A', c', e', _⟩ := h3.len
  rw [List.length_append] at e'
  subst e'
  exact hK _ _ (h A' _ c' w' (Lib.hid rfl) h2 (Lib.hid h3))
theorem wpSeqL_appFullN {α : Type} {P : Program} {S : World → Prop} {F : Act → World → Prop} {w : World} {ops : Array Oper} {rest : List Oper} {o : Oper} {a : Act} (hgd : o.guard = none) (hfr : freeOp o = false) (s x : Operand) (t : TypeId)
    (ho : o.op = .call { callee := .builtin .append, args := #[s, x], argTypes := #[t, t] })
    (e : TypeId) {n by' : Nat} {z : Value} (R : α → List Value → Prop) (C : α → List Value) (ht : P.underlying t = some (.slice e)) (hi : (P.info? e).map (fun i => (i.zero, i.size, i.bytes)) = some (some z, n, by'))
    (hzs : z.cells.size = n) (hn : 0 < n) (hby : by' ≤ 1048576) (hC : ∀ x cs, R x cs → cs = C x) (h1C : ∀ x u, u ∈ C x → u.oneCell' = true)
    {A B : Option Addr} {k m c : Nat} {l r : List α} (hs : a.eval s = .slice A k k) (hl : SlAt w (fun _ => True) n R (.slice A k k) l) (hx : a.eval x = .slice B m c) (hr : SlAt w (fun _ => True) n R (.slice B m c) r) (hnm : l.length + r.length ≤ 67108864)
    (h : ∀ A' n' c' w', Hid (n' = l.length + r.length) → w.grows w' → Hid (SlAt w' (fun _ => True) n R (.slice A' n' c') (l ++ r)) → S w' ∧ wpSeqL P ops S F rest (a.put o.dst (.slice A' n' c')) w') :
    wpSeqL P ops S F (o :: rest) a w := by
  refine wpSeqL_link hfr fun K hK => ?_
  rw [if_pos (by simp [Region.wanted, hgd])]
  obtain ⟨v', w', hrun, h2, h3⟩ := run_append_fullN (P := P) w t o.type e R C ht hi hzs hn hby hC h1C hl hr hnm
  unfold Oper.chain execOp
  simp only [ho, resolve, invoke, builtin, Sem.run_bind, Sem.run_pure, Result.andThen_ok, List.map_toArray, List.map_cons, List.map_nil, hs, hx, hrun]
  obtain ⟨A', c', e', _⟩ := h3.len
  rw [List.length_append] at e'
  subst e'
  obtain ⟨k1, k2⟩ := h A' _ c' w' (Lib.hid rfl) h2 (Lib.hid h3)
  exact hK _ _ k1 k2
end Go

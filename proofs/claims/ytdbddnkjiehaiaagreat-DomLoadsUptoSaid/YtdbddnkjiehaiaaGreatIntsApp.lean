/- LAWS: append onto a slice of whole numbers that has no room: a row of its own; in a region that draws its order. No condition; laws over any program. -/
import Derived.Test.YtdbddnkjiehaiaaGreatIntsAt
import Derived.Test.YtdbddnkjiehaiaaGreatMa
import Derived.ArgAppend
set_option linter.unusedSimpArgs false
set_option linter.unusedVariables false
namespace Go
open Go.RowKit
/-- the cells of a slice of whole numbers -/
theorem IntsAt.news {w : World} {a : Option Addr} {n c : Nat} {l : List Int} (h : IntsAt w (.slice a n c) l) : n = l.length ∧ (l = [] ∨ ∃ ad, a = some ad ∧ ∀ j u, (l.map (Value.int .i64))[j]? = some u → w.cell? (ad.add j) = some u) := by
  obtain ⟨a', cap, e, h1, h2, h3⟩ := h
  injection e with e1 e2 e3
  subst e1; subst e2
  refine ⟨rfl, ?_⟩
  rcases h3 with rfl | ⟨g, off, rfl, _, h4⟩
  · exact .inl rfl
  · refine .inr ⟨_, rfl, fun j u hj => ?_⟩
    rw [List.getElem?_map] at hj
    obtain ⟨x, hx, rfl⟩ := Option.map_eq_some_iff.1 hj
    obtain ⟨cs, _, el, rfl⟩ := h4 j x hx
    have := el.cell (j := 0) rfl
    rw [Nat.mul_one, Nat.add_zero] at this
    rw [Addr.add_lit]; exact this
theorem load_none {P : Program} (w : World) (b : Addr) : (loadCells b 0).run P w = .ok #[] w := by simp [loadCells, loadCellsFrom]
theorem run_append_full {P : Program} (w : World) (t ty e : TypeId) (ht : P.underlying t = some (.slice e)) (hi : (P.info? e).map (fun i => (i.zero, i.size, i.bytes)) = some (some (.int .i64 0), 1, 8))
    {A B : Option Addr} {n m c : Nat} {l r : List Int} (hl : IntsAt w (.slice A n n) l) (hr : IntsAt w (.slice B m c) r) (hnm : l.length + r.length ≤ 67108864) :
    ∃ v' w', (Builtin.append_ #[t, t] ty #[.slice A n n, .slice B m c]).run P w = .ok v' w' ∧ w.grows w' ∧ IntsAt w' v' (l ++ r) := by
  obtain ⟨i, hi0, hz0, hz1, hz2⟩ := info_parts hi
  obtain ⟨rfl, hA⟩ := hl.news
  obtain ⟨rfl, hB⟩ := hr.news
  rcases hB with rfl | ⟨b, rfl, hb⟩
  · refine ⟨.slice A l.length l.length, w, ?_, World.grows.refl, by rw [List.append_nil]; exact hl⟩
    rcases hA with rfl | ⟨ad, rfl, _⟩
    · cases A <;> cases B <;> simp [Builtin.append_, run_underlying ht, sizeOf, typeInfo, hi0, Builtin.lenOf, Builtin.firstCells, storeCells, load_none]
    · cases B <;> simp [Builtin.append_, run_underlying ht, sizeOf, typeInfo, hi0, Builtin.lenOf, Builtin.firstCells, storeCells, load_none]
  · by_cases hr0 : r = []
    · subst hr0
      refine ⟨.slice A l.length l.length, w, ?_, World.grows.refl, by rw [List.append_nil]; exact hl⟩
      rcases hA with rfl | ⟨ad, rfl, _⟩
      · cases A <;> simp [Builtin.append_, run_underlying ht, sizeOf, typeInfo, hi0, Builtin.lenOf, Builtin.firstCells, storeCells, load_none]
      · simp [Builtin.append_, run_underlying ht, sizeOf, typeInfo, hi0, Builtin.lenOf, Builtin.firstCells, storeCells, load_none]
    · have hpos : 0 < r.length := List.length_pos_iff.2 hr0
      have h1c : ∀ u ∈ r.map (Value.int .i64), u.oneCell' = true := fun u hu => by
        obtain ⟨x, _, rfl⟩ := List.mem_map.1 hu; simp [Value.oneCell']
      have fin : ∀ v' w', w'.ownsRow w.heap.size e 1 v' (l.length + r.length) (l.map (Value.int .i64) ++ r.map (Value.int .i64)) → w.grownBy w' none → w.grows w' ∧ IntsAt w' v' (l ++ r) := fun v' w' h hg => by
        refine ⟨World.grows.grown World.grows.refl hg (fun _ h => by cases h), IntsAt_own (B := w.heap.size) (t := e) ?_⟩
        rw [List.length_append, List.map_append]; exact h
      cases A with
      | some ad =>
        have holds : ∀ j u, (l.map (Value.int .i64))[j]? = some u → w.cell? (ad.add j) = some u := by
          rcases hA with rfl | ⟨ad', e', h⟩
          · intro j u hj; simp at hj
          · cases e'; exact h
        obtain ⟨v', w', hrun, r1, r2⟩ := run_append_arg_grows (P := P) w t ty e i (.int .i64 0) 1 8 ht hi0 hz0 hz1 hz2 rfl (by decide) ad l.length l.length (l.map (Value.int .i64)) (by simp) holds b r.length c (r.map (Value.int .i64)) (by simp) hb (by omega) (by simp only [maxLen]; omega) (by omega)
        exact ⟨v', w', hrun, fin v' w' r1 r2⟩
      | none =>
        obtain rfl : l = [] := by
          rcases hA with h | ⟨ad', e', _⟩
          · exact h
          · cases e'
        obtain ⟨v', w', hrun, r1, r2, _⟩ := run_append_own (P := P) w w.heap.size t ty e i (.int .i64 0) 1 8 ht hi0 hz0 hz1 hz2 rfl (by decide) (.slice none 0 0) 0 [] (World.ownsRow_nil w _ e 1) b r.length c (r.map (Value.int .i64)) (by simp) hb h1c (by simp only [maxLen]; omega) (by omega) (Nat.le_refl _)
        exact ⟨v', w', hrun, fin v' w' (by simpa using r1) r2⟩
theorem wpSeqL_appFull {P : Program} {S : World → Prop} {F : Act → World → Prop} {w : World} {ops : Array Oper} {rest : List Oper} {o : Oper} {a : Act} (hgd : o.guard = none) (hfr : freeOp o = false) (s x : Operand) (t : TypeId)
    (ho : o.op = .call { callee := .builtin .append, args := #[s, x], argTypes := #[t, t] })
    (e : TypeId) (ht : P.underlying t = some (.slice e)) (hi : (P.info? e).map (fun i => (i.zero, i.size, i.bytes)) = some (some (.int .i64 0), 1, 8))
    {A B : Option Addr} {n m c : Nat} {l r : List Int} (hs : a.eval s = .slice A n n) (hl : IntsAt w (.slice A n n) l) (hx : a.eval x = .slice B m c) (hr : IntsAt w (.slice B m c) r) (hnm : l.length + r.length ≤ 67108864)
    (h : ∀ A' n' c' w', Hid (n' = l.length + r.length) → w.grows w' → Hid (IntsAt w' (.slice A' n' c') (l ++ r)) → S w' ∧ wpSeqL P ops S F rest (a.put o.dst (.slice A' n' c')) w') :
    wpSeqL P ops S F (o :: rest) a w := by
  refine wpSeqL_link hfr fun K hK => ?_
  rw [if_pos (by simp [Region.wanted, hgd])]
  obtain ⟨v', w', hrun, h2, h3⟩ := run_append_full (P := P) w t o.type e ht hi hl hr hnm
  unfold Oper.chain execOp
  simp only [ho, resolve, invoke, builtin, Sem.run_bind, Sem.run_pure, Result.andThen_ok, List.map_toArray, List.map_cons, List.map_nil, hs, hx, hrun]
  obtain ⟨A', c', e', _⟩ := h3.len
  rw [List.length_append] at e'
  subst e'
  obtain ⟨k1, k2⟩ := h A' _ c' w' (Lib.hid rfl) h2 (Lib.hid h3)
  exact hK _ _ k1 k2
theorem SlAt_one {w : World} {g : Nat} {e : TypeId} {fr : Nat × Nat} {x : Int} (h : w.row g = some (.cells #[.int .i64 x] e fr)) : IntsAt w (.slice (some ⟨g, 0, none⟩) 1 1) [x] := by
  refine ⟨_, 1, rfl, by simp, by omega, .inr ⟨g, 0, rfl, trivial, fun i y hy => ?_⟩⟩
  have hil := (List.getElem?_eq_some_iff.1 hy).1
  obtain rfl : i = 0 := by simpa using hil
  cases hy
  exact ⟨[.int .i64 x], rfl, ⟨by rw [h]; rfl, by rw [h]; rfl⟩, rfl⟩
theorem IntsAt.post {w : World} {g off n c : Nat} {l : List Int} (h : IntsAt w (.slice (some ⟨g, off, none⟩) n c) l) {k : Nat} (hk : k ≤ l.length) : IntsAt w (.slice (some ⟨g, off + k, none⟩) (n - k) (c - k)) (l.drop k) := by
  obtain ⟨a', cap', e, h2, h3, h4⟩ := h
  injection e with e1 e2 e3
  subst e1; subst e2; subst e3
  refine ⟨some ⟨g, off + k, none⟩, c - k, by rw [List.length_drop], by rw [List.length_drop]; omega, by omega, ?_⟩
  by_cases hkl : k = l.length
  · exact .inl (by rw [hkl, List.drop_length])
  rcases h4 with rfl | ⟨g', off', e', hS, h7⟩
  · exact .inl (by simp)
  · cases e'
    exact .inr ⟨g, off + k, rfl, hS, fun i x hx => by
      rw [List.getElem?_drop] at hx
      have := h7 (k + i) x hx
      rw [Nat.mul_one] at this ⊢
      rw [Nat.add_assoc]; exact this⟩
theorem IntsAt_empty (w : World) (B : Option Addr) {m c : Nat} (hm : m = 0) (hc : c ≤ 9223372036854775807) : IntsAt w (.slice B m c) [] := ⟨B, c, by rw [hm]; rfl, Nat.zero_le _, hc, .inl rfl⟩
/-- slices of a slice of whole numbers -/
theorem IntsAt.pre {w : World} {a : Option Addr} {n c : Nat} {l : List Int} (h : IntsAt w (.slice a n c) l) {k : Nat} (hk : k ≤ l.length) : IntsAt w (.slice a k k) (l.take k) := by
  obtain ⟨a', cap', e, h2, h3, h4⟩ := h
  injection e with e1 e2 e3
  subst e1; subst e3
  have hl : (l.take k).length = k := by simp [hk]
  refine ⟨a, k, by rw [hl], by omega, by omega, ?_⟩
  rcases h4 with rfl | ⟨g, off, rfl, hS, h7⟩
  · exact .inl (by simp)
  · exact .inr ⟨g, off, rfl, hS, fun i x hx => h7 i x (by
      have := (List.getElem?_eq_some_iff.1 hx).1
      rw [List.getElem?_take_of_lt (by omega)] at hx; exact hx)⟩
end Go

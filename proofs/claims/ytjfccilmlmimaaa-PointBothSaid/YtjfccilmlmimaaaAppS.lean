/- LAWS: append onto a slice of whole numbers that has no room: in which block the result lies. No condition; laws over any program. -/
import Derived.Test.YtjfccilmlmimaaaAppN
set_option linter.unusedSimpArgs false
set_option linter.unusedVariables false
namespace Go
open Go.RowKit
abbrev IntR (x : Int) (cs : List Value) : Prop := cs = [Value.int .i64 x]
/-- the result lies where the first slice lay, or in a new block -/
theorem run_append_fullS {P : Program} (w : World) (t ty e : TypeId) {S : Nat → Prop} (ht : P.underlying t = some (.slice e)) (hi : (P.info? e).map (fun i => (i.zero, i.size, i.bytes)) = some (some (.int .i64 0), 1, 8))
    {A B : Option Addr} {k m c : Nat} {l r : List Int} (hl : SlAt w S 1 IntR (.slice A k k) l) (hr : IntsAt w (.slice B m c) r) (hnm : l.length + r.length ≤ 67108864) :
    ∃ v' w', (Builtin.append_ #[t, t] ty #[.slice A k k, .slice B m c]).run P w = .ok v' w' ∧ w.grows w' ∧ SlAt w' (fun g => S g ∨ w.heap.size ≤ g) 1 IntR v' (l ++ r) := by
  have hC : ∀ (x : Int) cs, IntR x cs → cs = [Value.int .i64 x] := fun _ _ h => h
  have h1C : ∀ (x : Int) u, u ∈ [Value.int .i64 x] → u.oneCell' = true := fun x u hu => by simp at hu; subst hu; simp [Value.oneCell']
  obtain ⟨i, hi0, hz0, hz1, hz2⟩ := info_parts hi
  have hl' : SlAt w (fun g => S g ∨ w.heap.size ≤ g) 1 IntR (.slice A k k) l := by
    obtain ⟨a, cap, q1, q2, q3, q4⟩ := hl
    refine ⟨a, cap, q1, q2, q3, ?_⟩
    rcases q4 with h | ⟨g, off, e, h6, h5⟩
    · exact .inl h
    · exact .inr ⟨g, off, e, .inl h6, h5⟩
  obtain ⟨rfl, hRl, hll, hA⟩ := hl.newsC (by omega) (fun x : Int => [Value.int .i64 x]) hC
  obtain ⟨rfl, hRr, hlr, hB⟩ := hr.newsC (by omega) (fun x : Int => [Value.int .i64 x]) hC
  rcases hB with rfl | ⟨b, rfl, hb⟩
  · refine ⟨.slice A l.length l.length, w, ?_, World.grows.refl, by rw [List.append_nil]; exact hl'⟩
    rcases hA with rfl | ⟨ad, rfl, _⟩
    · cases A <;> cases B <;> simp [Builtin.append_, run_underlying ht, sizeOf, typeInfo, hi0, Builtin.lenOf, Builtin.firstCells, storeCells, load_none]
    · cases B <;> simp [Builtin.append_, run_underlying ht, sizeOf, typeInfo, hi0, Builtin.lenOf, Builtin.firstCells, storeCells, load_none]
  · by_cases hr0 : r = []
    · subst hr0
      refine ⟨.slice A l.length l.length, w, ?_, World.grows.refl, by rw [List.append_nil]; exact hl'⟩
      rcases hA with rfl | ⟨ad, rfl, _⟩
      · cases A <;> simp [Builtin.append_, run_underlying ht, sizeOf, typeInfo, hi0, Builtin.lenOf, Builtin.firstCells, storeCells, load_none]
      · simp [Builtin.append_, run_underlying ht, sizeOf, typeInfo, hi0, Builtin.lenOf, Builtin.firstCells, storeCells, load_none]
    · have hpos : 0 < r.length := List.length_pos_iff.2 hr0
      have h1c : ∀ u ∈ r.flatMap (fun x : Int => [Value.int .i64 x]), u.oneCell' = true := fun u hu => by
        obtain ⟨x, _, hx⟩ := List.mem_flatMap.1 hu; exact h1C x u hx
      have fin : ∀ v' w', w'.ownsRow w.heap.size e 1 v' (l.length + r.length) (l.flatMap (fun x : Int => [Value.int .i64 x]) ++ r.flatMap (fun x : Int => [Value.int .i64 x])) → w.grownBy w' none → w.grows w' ∧ SlAt w' (fun g => S g ∨ w.heap.size ≤ g) 1 IntR v' (l ++ r) := fun v' w' h hg => by
        refine ⟨World.grows.grown World.grows.refl hg (fun _ h => by cases h), ?_⟩
        have ho : OwnAt w' w.heap.size e 1 IntR v' (l ++ r) := by
          refine ⟨(l ++ r).map (fun x : Int => [Value.int .i64 x]), by simp, fun i x cs h1 h2 => ?_, by rw [← List.flatMap_def, List.length_append, List.flatMap_append]; exact h⟩
          rw [List.getElem?_map, h1] at h2
          cases h2
          exact ⟨rfl, rfl⟩
        exact ho.slAt (by omega) fun g hg => .inr (h.lt g hg).1
      cases A with
      | some ad =>
        have holds : ∀ j u, (l.flatMap (fun x : Int => [Value.int .i64 x]))[j]? = some u → w.cell? (ad.add j) = some u := by
          rcases hA with rfl | ⟨ad', e', h⟩
          · intro j u hj; simp at hj
          · cases e'; exact h
        obtain ⟨v', w', hrun, r1, r2⟩ := run_append_arg_grows (P := P) w t ty e i (.int .i64 0) 1 8 ht hi0 hz0 hz1 hz2 rfl (by decide) ad l.length l.length _ hll holds b r.length c _ hlr hb (by omega) (by simp only [maxLen]; omega) (by omega)
        exact ⟨v', w', hrun, fin v' w' r1 r2⟩
      | none =>
        obtain rfl : l = [] := by
          rcases hA with h | ⟨ad', e', _⟩
          · exact h
          · cases e'
        obtain ⟨v', w', hrun, r1, r2, _⟩ := run_append_own (P := P) w w.heap.size t ty e i (.int .i64 0) 1 8 ht hi0 hz0 hz1 hz2 rfl (by decide) (.slice none 0 0) 0 [] (World.ownsRow_nil w _ e 1) b r.length c _ hlr hb h1c (by simp only [maxLen]; omega) (by simp at hnm ⊢; omega) (Nat.le_refl _)
        exact ⟨v', w', hrun, fin v' w' (by simpa using r1) r2⟩
theorem wpSeqL_appFullS {P : Program} {S : World → Prop} {F : Act → World → Prop} {w : World} {ops : Array Oper} {rest : List Oper} {o : Oper} {a : Act} (hgd : o.guard = none) (hfr : freeOp o = false) (s x : Operand) (t : TypeId)
    (ho : o.op = .call { callee := .builtin .append, args := #[s, x], argTypes := #[t, t] })
    (e : TypeId) {T : Nat → Prop} (ht : P.underlying t = some (.slice e)) (hi : (P.info? e).map (fun i => (i.zero, i.size, i.bytes)) = some (some (.int .i64 0), 1, 8))
    {A B : Option Addr} {n m c : Nat} {l r : List Int} (hs : a.eval s = .slice A n n) (hl : SlAt w T 1 IntR (.slice A n n) l) (hx : a.eval x = .slice B m c) (hr : IntsAt w (.slice B m c) r) (hnm : l.length + r.length ≤ 67108864)
    (h : ∀ A' n' c' w', Hid (n' = l.length + r.length) → w.grows w' → Hid (SlAt w' (fun g => T g ∨ w.heap.size ≤ g) 1 IntR (.slice A' n' c') (l ++ r)) → S w' ∧ wpSeqL P ops S F rest (a.put o.dst (.slice A' n' c')) w') :
    wpSeqL P ops S F (o :: rest) a w := by
  refine wpSeqL_link hfr fun K hK => ?_
  rw [if_pos (by simp [Region.wanted, hgd])]
  obtain ⟨v', w', hrun, h2, h3⟩ := run_append_fullS (P := P) w t o.type e ht hi hl hr hnm
  unfold Oper.chain execOp
  simp only [ho, resolve, invoke, builtin, Sem.run_bind, Sem.run_pure, Result.andThen_ok, List.map_toArray, List.map_cons, List.map_nil, hs, hx, hrun]
  obtain ⟨A', c', e', _⟩ := h3.len
  rw [List.length_append] at e'
  subst e'
  obtain ⟨k1, k2⟩ := h A' _ c' w' (Lib.hid rfl) h2 (Lib.hid h3)
  exact hK _ _ k1 k2
theorem slS_pre {w W' : World} {S : Nat → Prop} {a : Option Addr} {n c k : Nat} {l : List Int} (h : SlAt w S 1 IntR (.slice a n c) l) (hk : k ≤ l.length) (hg : w.grows W') : SlAt W' S 1 IntR (.slice a k k) (l.take k) := by
  obtain ⟨a', cap', e, h2, h3, h4⟩ := h.grows hg fun _ _ _ h => h
  injection e with e1 e2 e3
  subst e1; subst e3
  have hl : (l.take k).length = k := by simp [hk]
  refine ⟨a, k, by rw [hl], by omega, by omega, ?_⟩
  rcases h4 with rfl | ⟨g, off, rfl, hS, h7⟩
  · exact .inl (by simp)
  · exact .inr ⟨g, off, rfl, hS, fun i x hx => h7 i x (by
      have := (List.getElem?_eq_some_iff.1 hx).1
      rw [List.getElem?_take_of_lt (by omega)] at hx; exact hx)⟩
theorem slS_weak {w W : World} {S : Nat → Prop} {v : Value} {l : List Int} {n m : Nat} (h : SlAt W (fun g => S g ∨ n ≤ g) 1 IntR v l) (hn : m ≤ n) : SlAt W (fun g => S g ∨ m ≤ g) 1 IntR v l := by
  obtain ⟨a, cap, q1, q2, q3, q4⟩ := h
  refine ⟨a, cap, q1, q2, q3, ?_⟩
  rcases q4 with h | ⟨g, off, e, h6, h5⟩
  · exact .inl h
  · exact .inr ⟨g, off, e, h6.imp id (fun h => Nat.le_trans hn h), h5⟩
theorem slS_left {W : World} {S : Nat → Prop} {v : Value} {l : List Int} {m : Nat} (h : SlAt W S 1 IntR v l) : SlAt W (fun g => S g ∨ m ≤ g) 1 IntR v l := by
  obtain ⟨a, cap, q1, q2, q3, q4⟩ := h
  refine ⟨a, cap, q1, q2, q3, ?_⟩
  rcases q4 with h | ⟨g, off, e, h6, h5⟩
  · exact .inl h
  · exact .inr ⟨g, off, e, .inl h6, h5⟩
end Go

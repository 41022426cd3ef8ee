/- LAWS: a list that a call builds by append, as rows. No condition. -/
import Derived.Test.YthcaphoejplecaaGreatDoorElt
import Derived.Maps.AppendAt
set_option linter.unusedSimpArgs false
set_option linter.unusedVariables false
namespace Go
open Go.RowKit
theorem World.grows.grown {w wr w' : World} (h : w.grows wr) {row : Option Nat} (hg : wr.grownBy w' row) (hr : ∀ k, row = some k → w.heap.size ≤ k) : w.grows w' := by
  have hb := h.below
  obtain ⟨h1, h2, h3, h4, h5⟩ := hb
  exact World.grows.of_below ⟨hg.os.trans h1, hg.tape.trans h2, hg.output.trans h3, Nat.le_trans h4 hg.size, fun k hk =>
    (hg.block k (Nat.lt_of_lt_of_le hk h4) (fun e => by have := hr k e.symm; omega)).trans (h5 k hk)⟩
theorem World.row_grown {w w' : World} {row : Option Nat} (hg : w.grownBy w' row) {k : Nat} {o : Obj} (h : w.row k = some o) (hk : some k ≠ row) : w'.row k = some o := by
  have hlt : k < w.heap.size := (row_sz' h).1
  unfold World.row at *
  rw [hg.block k hlt hk]; exact h
theorem World.ownsRow.grows {w W : World} {base : Nat} {e : TypeId} {size : Nat} {v : Value} {n : Nat} {xs : List Value} (h : w.ownsRow base e size v n xs) (hg : w.grows W) : W.ownsRow base e size v n xs := by
  obtain ⟨x, rfl⟩ := hg
  refine ⟨h.1, ?_⟩
  rcases h.2 with hn | ⟨g, cap, cur, rfl, hb, hgg, rest⟩
  · exact .inl hn
  · exact .inr ⟨g, cap, cur, rfl, hb, by rw [World.heap_plus_lt _ _ (Array.getElem?_eq_some_iff.1 hgg).1]; exact hgg, rest⟩
theorem cells_of_row {w : World} {g : Nat} {cs : List Value} {e : TypeId} {fr : Nat × Nat} (h : w.row g = some (.cells cs.toArray e fr)) : ∀ j u, cs[j]? = some u → w.cell? ((⟨g, 0, none⟩ : Addr).add j) = some u := by
  intro j u hj
  rw [Addr.add_lit, World.cell?_row, h, Nat.zero_add]
  show cs.toArray[j]? = some u
  simpa using hj
/-- append onto a row of the call's own, which lies behind B: the world taken anew, blocks below B as they were -/
theorem wpList_app {P : Program} {w : World} {ops : Array Oper} {rest : List Oper} {o : Oper} {a : Act} {Q : Exit → Act → World → Prop} (w0 : World) (B : Nat) (hgd : o.guard = none) (s x : Operand) (t : TypeId)
    (ho : o.op = .call { callee := .builtin .append, args := #[s, x], argTypes := #[t, t] })
    (e : TypeId) (z : Value) (size bytes : Nat) (ht : P.underlying t = some (.slice e)) (hi : (P.info? e).map (fun i => (i.zero, i.size, i.bytes)) = some (some z, size, bytes))
    (hzs : z.cells.size = size) (hsz : 0 < size) (hby : bytes ≤ 1048576)
    (v : Value) (n : Nat) (xs : List Value) (hs : a.eval s = v) (hown : w.ownsRow B e size v n xs)
    (ad : Addr) (m c : Nat) (news : List Value) (hx : a.eval x = .slice (some ad) m c) (hl : news.length = m * size) (hnews : ∀ j u, news[j]? = some u → w.cell? (ad.add j) = some u) (h1 : ∀ u ∈ news, u.oneCell' = true)
    (hn : n + m ≤ 67108864) (hg0 : w0.grows w) (hB : w0.heap.size ≤ B) (hB2 : B ≤ w.heap.size)
    (h : ∀ v' w', w0.grows w' → Hid (w'.ownsRow B e size v' (n + m) (xs ++ news)) → Hid (∀ k, k < B → w'.row k = w.row k) → Hid (w.grownBy w' v.ownBlock) → Hid (v'.ownBlock = v.ownBlock ∨ v'.ownBlock = some w.heap.size) → wpList P ops Q rest (a.put o.dst v') w') :
    wpList P ops Q (o :: rest) a w := by
  obtain ⟨i, hi0, hzz⟩ := Option.map_eq_some_iff.1 hi
  simp only [Prod.mk.injEq] at hzz
  obtain ⟨hz, hsz0, hby0⟩ := hzz
  refine wpList_append_own_at w hgd s x t ho B e i z size bytes ht hi0 hz hsz0 hby0 hzs hsz v n xs hs hown ad m c news hx hl hnews h1 (by simp only [maxLen]; omega)
    (Nat.le_trans (Nat.mul_le_mul hn hby) (by decide)) hB2 ?_
  intro v' w' hown' hgrow _ hat
  have hlt := hown.lt
  refine h v' w' (hg0.grown hgrow (fun k hk => Nat.le_trans hB (hlt k hk).1)) (Lib.hid hown') (Lib.hid fun k hk => ?_) (Lib.hid hgrow) (Lib.hid hat)
  by_cases hks : k < w.heap.size
  · unfold World.row
    rw [hgrow.block k hks (fun e => by have := (hlt k e.symm).1; omega)]
  · omega
theorem World.ownsRow.row_kept {w W : World} {base : Nat} {e : TypeId} {size : Nat} {v : Value} {n : Nat} {xs : List Value} (h : w.ownsRow base e size v n xs) (hk : ∀ g, base ≤ g → g < w.heap.size → W.row g = w.row g) : W.ownsRow base e size v n xs := by
  refine ⟨h.1, ?_⟩
  rcases h.2 with hn | ⟨g, cap, cur, rfl, hb, hgg, rest⟩
  · exact .inl hn
  · exact .inr ⟨g, cap, cur, rfl, hb, (hk g hb (Array.getElem?_eq_some_iff.1 hgg).1).trans hgg, rest⟩
theorem run_append_of_nil {P : Program} (w : World) (base : Nat) (t ty e : TypeId) (i : TypeInfo) (size : Nat) (ht : P.underlying t = some (.slice e)) (hi : P.info? e = some i)
    (v : Value) (n : Nat) (xs : List Value) (hown : w.ownsRow base e size v n xs) (c : Nat) : (Builtin.append_ #[t, t] ty #[v, .slice none 0 c]).run P w = .ok v w := by
  rcases hown.2 with ⟨rfl, rfl⟩ | ⟨g, cap, cur, rfl, _, _, hnc, _⟩
  · simp [Builtin.append_, run_underlying ht, sizeOf, typeInfo, hi, Builtin.lenOf, Builtin.firstCells]
  · simp [Builtin.append_, run_underlying ht, sizeOf, typeInfo, hi, Builtin.lenOf, Builtin.firstCells, hnc, storeCells]
/-- the same where what is appended is a slice, nil or not -/
theorem wpList_appS {P : Program} {w : World} {ops : Array Oper} {rest : List Oper} {o : Oper} {a : Act} {Q : Exit → Act → World → Prop} (w0 : World) (B : Nat) (hgd : o.guard = none) (s x : Operand) (t : TypeId)
    (ho : o.op = .call { callee := .builtin .append, args := #[s, x], argTypes := #[t, t] })
    (e : TypeId) (z : Value) (size bytes : Nat) (ht : P.underlying t = some (.slice e)) (hi : (P.info? e).map (fun i => (i.zero, i.size, i.bytes)) = some (some z, size, bytes))
    (hzs : z.cells.size = size) (hsz : 0 < size) (hby : bytes ≤ 1048576)
    (v : Value) (n : Nat) (xs : List Value) (hs : a.eval s = v) (hown : w.ownsRow B e size v n xs)
    (A : Option Addr) (m c : Nat) (news : List Value) (hx : a.eval x = .slice A m c) (hl : news.length = m * size) (hA : m = 0 ∨ ∃ ad, A = some ad ∧ ∀ j u, news[j]? = some u → w.cell? (ad.add j) = some u) (h1 : ∀ u ∈ news, u.oneCell' = true)
    (hn : n + m ≤ 67108864) (hg0 : w0.grows w) (hB : w0.heap.size ≤ B) (hB2 : B ≤ w.heap.size)
    (h : ∀ v' w', w0.grows w' → Hid (w'.ownsRow B e size v' (n + m) (xs ++ news)) → Hid (∀ k, k < B → w'.row k = w.row k) → Hid (w.grownBy w' v.ownBlock) → Hid (v'.ownBlock = v.ownBlock ∨ v'.ownBlock = some w.heap.size) → wpList P ops Q rest (a.put o.dst v') w') :
    wpList P ops Q (o :: rest) a w := by
  cases A with
  | some ad =>
    refine wpList_app w0 B hgd s x t ho e z size bytes ht hi hzs hsz hby v n xs hs hown ad m c news hx hl ?_ h1 hn hg0 hB hB2 h
    rcases hA with rfl | ⟨ad', h, hc⟩
    · have : news = [] := List.length_eq_zero_iff.1 (by simpa using hl)
      subst this; intro j u hj; simp at hj
    · cases h; exact hc
  | none =>
    have hm : m = 0 := by rcases hA with h | ⟨ad', h, _⟩; exact h; cases h
    subst hm
    have hnn : news = [] := List.length_eq_zero_iff.1 (by simpa using hl)
    subst hnn
    obtain ⟨i, hi0, _⟩ := Option.map_eq_some_iff.1 hi
    refine wpList_plain hgd fun K hK => ?_
    unfold Oper.wp execOp
    simp only [ho, resolve, invoke, builtin, Sem.run_bind, Sem.run_pure, Result.andThen_ok, List.map_toArray, List.map_cons, List.map_nil, hs, hx, run_append_of_nil w B t o.type e i size ht hi0 v n xs hown c]
    exact hK _ _ (h v w hg0 (by simpa using Lib.hid hown) (Lib.hid fun _ _ => rfl) (Lib.hid (World.grownBy.refl w _)) (Lib.hid (.inl rfl)))
theorem World.ownsRow.mono_base {w : World} {base B : Nat} {e : TypeId} {size : Nat} {v : Value} {n : Nat} {xs : List Value} (hB : B ≤ base) (h : w.ownsRow base e size v n xs) : w.ownsRow B e size v n xs := by
  refine ⟨h.1, ?_⟩
  rcases h.2 with hn | ⟨g, cap, cur, rfl, hb, hgg, rest⟩
  · exact .inl hn
  · exact .inr ⟨g, cap, cur, rfl, Nat.le_trans hB hb, hgg, rest⟩
end Go

/- Texts of the walk, one after the other; what each proves stands ahead of it. -/
import Derived.Maps.AppendAt
import Derived.Test.YthmicnjigfcljaaMi
set_option linter.unusedSimpArgs false
set_option linter.unusedVariables false
/- LAWS: a list of numbers that a call builds by append, as rows. No condition. -/
namespace Go
open Go.RowKit
theorem World.grows.grown {w wr w' : World} (h : w.grows wr) {row : Option Nat} (hg : wr.grownBy w' row) (hr : ∀ k, row = some k → w.heap.size ≤ k) : w.grows w' := by
  have hb := h.below
  obtain ⟨h1, h2, h3, h4, h5⟩ := hb
  exact World.grows.of_below ⟨hg.os.trans h1, hg.tape.trans h2, hg.output.trans h3, Nat.le_trans h4 hg.size, fun k hk =>
    (hg.block k (Nat.lt_of_lt_of_le hk h4) (fun e => by have := hr k e.symm; omega)).trans (h5 k hk)⟩
theorem flat_get : ∀ (l : List (Int × Int)) (i : Nat) (p : Int × Int) (j : Nat), l[i]? = some p → j < 2 → (l.flatMap ratL)[i * 2 + j]? = (ratL p)[j]?
  | [], i, p, j, h, _ => by simp at h
  | q :: l, 0, p, j, h, hj => by
    obtain rfl : q = p := by simpa using h
    rw [List.flatMap_cons, Nat.zero_mul, Nat.zero_add, List.getElem?_append_left (by simpa [ratL] using hj)]
  | q :: l, i + 1, p, j, h, hj => by
    rw [List.flatMap_cons, List.getElem?_append_right (by simp [ratL]; omega), ← flat_get l i p j (by simpa using h) hj]
    congr 1
    simp [ratL]; omega
theorem RatsAt_of_owns {w : World} {base : Nat} {e : TypeId} {v : Value} {l : List (Int × Int)} (h : w.ownsRow base e 2 v l.length (l.flatMap ratL)) (hI : ∀ p ∈ l, I64p p) : RatsAt w v l := by
  obtain ⟨_, ⟨rfl, h0⟩ | ⟨g, cap, cur, rfl, hb, hh, hn, hc, hsz, htake⟩⟩ := h
  · obtain rfl : l = [] := List.length_eq_zero_iff.mp h0
    exact ⟨none, 0, rfl, Nat.le_refl _, by omega, hI, .inl rfl⟩
  · refine ⟨_, cap, rfl, hn, by simpa [maxLen] using hc, hI, .inr ⟨g, 0, rfl, fun i p hi => ?_⟩⟩
    refine eltAt_of_range (by simp [ratL]) fun j v hj => ?_
    have hj2 : j < 2 := by
      have := (List.getElem?_eq_some_iff.mp hj).1
      simpa [ratL] using this
    have hil := (List.getElem?_eq_some_iff.mp hi).1
    have hr : w.row g = some (.cells cur e (0, 0)) := hh
    rw [World.cell?_row, hr]
    show cur[0 + i * 2 + j]? = some v
    rw [← hj, ← flat_get l i p j hi hj2, ← htake, List.getElem?_take_of_lt (by omega), Nat.zero_add]
    simp
theorem World.ownsRow.grows {w W : World} {base : Nat} {e : TypeId} {size : Nat} {v : Value} {n : Nat} {xs : List Value} (h : w.ownsRow base e size v n xs) (hg : w.grows W) : W.ownsRow base e size v n xs := by
  obtain ⟨x, rfl⟩ := hg
  refine ⟨h.1, ?_⟩
  rcases h.2 with hn | ⟨g, cap, cur, rfl, hb, hgg, rest⟩
  · exact .inl hn
  · exact .inr ⟨g, cap, cur, rfl, hb, by rw [World.heap_plus_lt _ _ (Array.getElem?_eq_some_iff.1 hgg).1]; exact hgg, rest⟩
theorem cells_of_row {w : World} {g : Nat} {cs : List Value} {e : TypeId} {fr : Nat × Nat} (h : w.row g = some (.cells cs.toArray e fr)) : ∀ j u, cs[j]? = some u → w.cell? ((⟨g, 0, none⟩ : Addr).add j) = some u := by
  intro j u hj
  rw [Addr.add_lit, World.cell?_row, h, Nat.zero_add]
  show cs.toArray[j]? = some u
  simpa using hj
/-- append onto a row of the call's own, which lies behind B: the world taken anew, blocks below B as they were -/
theorem wpList_app {P : Program} {w : World} {ops : Array Oper} {rest : List Oper} {o : Oper} {a : Act} {Q : Exit → Act → World → Prop} (w0 : World) (B : Nat) (hgd : o.guard = none) (s x : Operand) (t : TypeId)
    (ho : o.op = .call { callee := .builtin .append, args := #[s, x], argTypes := #[t, t] })
    (e : TypeId) (z : Value) (size bytes : Nat) (ht : P.underlying t = some (.slice e)) (hi : (P.info? e).map (fun i => (i.zero, i.size, i.bytes)) = some (some z, size, bytes))
    (hzs : z.cells.size = size) (hsz : 0 < size) (hby : bytes ≤ 1048576)
    (v : Value) (n : Nat) (xs : List Value) (hs : a.eval s = v) (hown : w.ownsRow B e size v n xs)
    (ad : Addr) (m c : Nat) (news : List Value) (hx : a.eval x = .slice (some ad) m c) (hl : news.length = m * size) (hnews : ∀ j u, news[j]? = some u → w.cell? (ad.add j) = some u) (h1 : ∀ u ∈ news, u.oneCell' = true)
    (hn : n + m ≤ 67108864) (hg0 : w0.grows w) (hB : w0.heap.size ≤ B) (hB2 : B ≤ w.heap.size)
    (h : ∀ v' w', w0.grows w' → Hid (w'.ownsRow B e size v' (n + m) (xs ++ news)) → Hid (∀ k, k < B → w'.row k = w.row k) → Hid (w.grownBy w' v.ownBlock) → Hid (v'.ownBlock = v.ownBlock ∨ v'.ownBlock = some w.heap.size) → wpList P ops Q rest (a.put o.dst v') w') :
    wpList P ops Q (o :: rest) a w := by
  obtain ⟨i, hi0, hzz⟩ := Option.map_eq_some_iff.1 hi
  simp only [Prod.mk.injEq] at hzz
  obtain ⟨hz, hsz0, hby0⟩ := hzz
  refine wpList_append_own_at w hgd s x t ho B e i z size bytes ht hi0 hz hsz0 hby0 hzs hsz v n xs hs hown ad m c news hx hl hnews h1 (by simp only [maxLen]; omega)
    (Nat.le_trans (Nat.mul_le_mul hn hby) (by decide)) hB2 ?_
  intro v' w' hown' hgrow _ hat
  have hlt := hown.lt
  refine h v' w' (hg0.grown hgrow (fun k hk => Nat.le_trans hB (hlt k hk).1)) (Lib.hid hown') (Lib.hid fun k hk => ?_) (Lib.hid hgrow) (Lib.hid hat)
  by_cases hks : k < w.heap.size
  · unfold World.row
    rw [hgrow.block k hks (fun e => by have := (hlt k e.symm).1; omega)]
  · omega
theorem World.ownsRow.row_kept {w W : World} {base : Nat} {e : TypeId} {size : Nat} {v : Value} {n : Nat} {xs : List Value} (h : w.ownsRow base e size v n xs) (hk : ∀ g, base ≤ g → g < w.heap.size → W.row g = w.row g) : W.ownsRow base e size v n xs := by
  refine ⟨h.1, ?_⟩
  rcases h.2 with hn | ⟨g, cap, cur, rfl, hb, hgg, rest⟩
  · exact .inl hn
  · exact .inr ⟨g, cap, cur, rfl, hb, (hk g hb (Array.getElem?_eq_some_iff.1 hgg).1).trans hgg, rest⟩
theorem run_append_of_nil {P : Program} (w : World) (base : Nat) (t ty e : TypeId) (i : TypeInfo) (size : Nat) (ht : P.underlying t = some (.slice e)) (hi : P.info? e = some i)
    (v : Value) (n : Nat) (xs : List Value) (hown : w.ownsRow base e size v n xs) (c : Nat) : (Builtin.append_ #[t, t] ty #[v, .slice none 0 c]).run P w = .ok v w := by
  rcases hown.2 with ⟨rfl, rfl⟩ | ⟨g, cap, cur, rfl, _, _, hnc, _⟩
  · simp [Builtin.append_, run_underlying ht, sizeOf, typeInfo, hi, Builtin.lenOf, Builtin.firstCells]
  · simp [Builtin.append_, run_underlying ht, sizeOf, typeInfo, hi, Builtin.lenOf, Builtin.firstCells, hnc, storeCells]
/-- the same where what is appended is a slice, nil or not -/
theorem wpList_appS {P : Program} {w : World} {ops : Array Oper} {rest : List Oper} {o : Oper} {a : Act} {Q : Exit → Act → World → Prop} (w0 : World) (B : Nat) (hgd : o.guard = none) (s x : Operand) (t : TypeId)
    (ho : o.op = .call { callee := .builtin .append, args := #[s, x], argTypes := #[t, t] })
    (e : TypeId) (z : Value) (size bytes : Nat) (ht : P.underlying t = some (.slice e)) (hi : (P.info? e).map (fun i => (i.zero, i.size, i.bytes)) = some (some z, size, bytes))
    (hzs : z.cells.size = size) (hsz : 0 < size) (hby : bytes ≤ 1048576)
    (v : Value) (n : Nat) (xs : List Value) (hs : a.eval s = v) (hown : w.ownsRow B e size v n xs)
    (A : Option Addr) (m c : Nat) (news : List Value) (hx : a.eval x = .slice A m c) (hl : news.length = m * size) (hA : m = 0 ∨ ∃ ad, A = some ad ∧ ∀ j u, news[j]? = some u → w.cell? (ad.add j) = some u) (h1 : ∀ u ∈ news, u.oneCell' = true)
    (hn : n + m ≤ 67108864) (hg0 : w0.grows w) (hB : w0.heap.size ≤ B) (hB2 : B ≤ w.heap.size)
    (h : ∀ v' w', w0.grows w' → Hid (w'.ownsRow B e size v' (n + m) (xs ++ news)) → Hid (∀ k, k < B → w'.row k = w.row k) → Hid (w.grownBy w' v.ownBlock) → Hid (v'.ownBlock = v.ownBlock ∨ v'.ownBlock = some w.heap.size) → wpList P ops Q rest (a.put o.dst v') w') :
    wpList P ops Q (o :: rest) a w := by
  cases A with
  | some ad =>
    refine wpList_app w0 B hgd s x t ho e z size bytes ht hi hzs hsz hby v n xs hs hown ad m c news hx hl ?_ h1 hn hg0 hB hB2 h
    rcases hA with rfl | ⟨ad', h, hc⟩
    · have : news = [] := List.length_eq_zero_iff.1 (by simpa using hl)
      subst this; intro j u hj; simp at hj
    · cases h; exact hc
  | none =>
    have hm : m = 0 := by rcases hA with h | ⟨ad', h, _⟩; exact h; cases h
    subst hm
    have hnn : news = [] := List.length_eq_zero_iff.1 (by simpa using hl)
    subst hnn
    obtain ⟨i, hi0, _⟩ := Option.map_eq_some_iff.1 hi
    refine wpList_plain hgd fun K hK => ?_
    unfold Oper.wp execOp
    simp only [ho, resolve, invoke, builtin, Sem.run_bind, Sem.run_pure, Result.andThen_ok, List.map_toArray, List.map_cons, List.map_nil, hs, hx, run_append_of_nil w B t o.type e i size ht hi0 v n xs hown c]
    exact hK _ _ (h v w hg0 (by simpa using Lib.hid hown) (Lib.hid fun _ _ => rfl) (Lib.hid (World.grownBy.refl w _)) (Lib.hid (.inl rfl)))
end Go

/- LAWS: a slice in memory that reads as a list of things, each of so many cells; the blocks that it lies in are among S. What of it stays when the world goes on; one that the call itself has built. No condition; no program. -/
namespace Go
open Go.RowKit

/-- a slice that reads as these things, each of n cells -/
def SlAt {α : Type} (w : World) (S : Nat → Prop) (n : Nat) (R : α → List Value → Prop) (v : Value) (l : List α) : Prop :=
  ∃ (a : Option Addr) (cap : Nat), v = .slice a l.length cap ∧ l.length ≤ cap ∧ cap ≤ 9223372036854775807 ∧
    (l = [] ∨ ∃ (g off : Nat), a = some ⟨g, off, none⟩ ∧ S g ∧ ∀ (i : Nat) (x : α), l[i]? = some x → ∃ cs, cs.length = n ∧ eltAt w g (off + i * n) cs ∧ R x cs)
theorem eltAt.keep {w W : World} {g off : Nat} {cs : List Value} (h : eltAt w g off cs) (hr : W.row g = w.row g) : eltAt W g off cs := by
  unfold eltAt at *; rw [hr]; exact h
theorem SlAt.keep {α : Type} {w W : World} {S S' : Nat → Prop} {n : Nat} {R R' : α → List Value → Prop} {v : Value} {l : List α} (h : SlAt w S n R v l)
    (hw : ∀ g, S g → g < w.heap.size → W.row g = w.row g ∧ S' g) (hR : ∀ x ∈ l, ∀ cs, R x cs → R' x cs) : SlAt W S' n R' v l := by
  obtain ⟨a, cap, h1, h2, h3, h4⟩ := h
  refine ⟨a, cap, h1, h2, h3, ?_⟩
  rcases h4 with h4 | ⟨g, off, h5, h6, h7⟩
  · exact .inl h4
  · cases l with
    | nil => exact .inl rfl
    | cons y l =>
      obtain ⟨cs0, _, e0, _⟩ := h7 0 y rfl
      have hg := hw g h6 e0.lt
      refine .inr ⟨g, off, h5, hg.2, fun i x hx => ?_⟩
      obtain ⟨cs, e1, e2, e3⟩ := h7 i x hx
      exact ⟨cs, e1, e2.keep hg.1, hR x (List.mem_of_getElem? hx) cs e3⟩
theorem World.grows.row_eq {w W : World} (hg : w.grows W) {g : Nat} (h : g < w.heap.size) : W.row g = w.row g := by
  obtain ⟨x, rfl⟩ := hg
  rw [World.row_plus, if_pos h]
theorem SlAt.grows {α : Type} {w W : World} {S : Nat → Prop} {n : Nat} {R R' : α → List Value → Prop} {v : Value} {l : List α} (h : SlAt w S n R v l) (hg : w.grows W) (hR : ∀ x ∈ l, ∀ cs, R x cs → R' x cs) : SlAt W S n R' v l :=
  h.keep (fun _ hS hl => ⟨hg.row_eq hl, hS⟩) hR
theorem SlAt.len {α : Type} {w : World} {S : Nat → Prop} {n : Nat} {R : α → List Value → Prop} {v : Value} {l : List α} (h : SlAt w S n R v l) : ∃ a cap, v = .slice a l.length cap ∧ l.length ≤ cap ∧ cap ≤ 9223372036854775807 := by
  obtain ⟨a, cap, h1, h2, h3, _⟩ := h; exact ⟨a, cap, h1, h2, h3⟩
theorem SlAt_nil {α : Type} (w : World) (S : Nat → Prop) (n : Nat) (R : α → List Value → Prop) : SlAt w S n R (.slice none 0 0) ([] : List α) := ⟨none, 0, rfl, Nat.le_refl _, by omega, .inl rfl⟩

/-- one that the call has built in a row of its own -/
def OwnAt {α : Type} (w : World) (B : Nat) (e : TypeId) (n : Nat) (R : α → List Value → Prop) (v : Value) (l : List α) : Prop :=
  ∃ css : List (List Value), css.length = l.length ∧ (∀ (i : Nat) (x : α) (cs : List Value), l[i]? = some x → css[i]? = some cs → cs.length = n ∧ R x cs) ∧ w.ownsRow B e n v l.length css.flatten
theorem flatten_get {n : Nat} : ∀ (css : List (List Value)) (i : Nat) (cs : List Value) (j : Nat), (∀ c ∈ css, c.length = n) → css[i]? = some cs → j < n → css.flatten[i * n + j]? = cs[j]?
  | [], i, cs, j, _, h, _ => by simp at h
  | c :: css, 0, cs, j, hl, h, hj => by
    obtain rfl : c = cs := by simpa using h
    rw [List.flatten_cons, Nat.zero_mul, Nat.zero_add, List.getElem?_append_left (by rw [hl c (by simp)]; exact hj)]
  | c :: css, i + 1, cs, j, hl, h, hj => by
    have hc := hl c (by simp)
    rw [List.flatten_cons, List.getElem?_append_right (by rw [hc, Nat.add_mul]; omega), ← flatten_get css i cs j (fun c hc => hl c (by simp [hc])) (by simpa using h) hj]
    congr 1
    rw [hc, Nat.add_mul]; omega
theorem OwnAt.slAt {α : Type} {w : World} {B : Nat} {e : TypeId} {n : Nat} {R : α → List Value → Prop} {v : Value} {l : List α} {S : Nat → Prop} (h : OwnAt w B e n R v l) (hn : 0 < n) (hS : ∀ g, v.ownBlock = some g → S g) : SlAt w S n R v l := by
  obtain ⟨css, h1, h2, h3⟩ := h
  obtain ⟨_, ⟨rfl, h0⟩ | ⟨g, cap, cur, rfl, hb, hh, hnc, hc, hsz, htake⟩⟩ := h3
  · obtain rfl : l = [] := List.length_eq_zero_iff.mp h0
    exact SlAt_nil _ _ _ _
  · refine ⟨_, cap, rfl, hnc, by simpa [maxLen] using hc, .inr ⟨g, 0, rfl, hS g rfl, fun i x hi => ?_⟩⟩
    have hil := (List.getElem?_eq_some_iff.mp hi).1
    have hcs : css[i]? = some css[i] := List.getElem?_eq_getElem (by omega)
    obtain ⟨k1, k2⟩ := h2 i x _ hi hcs
    have hlen : ∀ c ∈ css, c.length = n := fun c hc => by
      obtain ⟨j, hj, rfl⟩ := List.mem_iff_getElem.1 hc
      exact (h2 j l[j] _ (List.getElem?_eq_getElem (by omega)) (List.getElem?_eq_getElem hj)).1
    refine ⟨css[i], k1, eltAt_of_range (by intro e; rw [e] at k1; simp at k1; omega) fun j u hj => ?_, k2⟩
    have hj2 : j < n := by have := (List.getElem?_eq_some_iff.mp hj).1; omega
    have hr : w.row g = some (.cells cur e (0, 0)) := hh
    rw [World.cell?_row, hr]
    show cur[0 + i * n + j]? = some u
    have hlt : i * n + j < l.length * n := by
      have : (i + 1) * n ≤ l.length * n := Nat.mul_le_mul_right _ hil
      rw [Nat.add_mul] at this; omega
    rw [← hj, ← flatten_get css i _ j hlen hcs hj2, ← htake, List.getElem?_take_of_lt hlt, Nat.zero_add]
    simp
theorem OwnAt_nil {α : Type} (w : World) (B : Nat) (e : TypeId) (n : Nat) (R : α → List Value → Prop) : OwnAt w B e n R (.slice none 0 0) ([] : List α) :=
  ⟨[], rfl, fun i x cs h => by simp at h, World.ownsRow_nil _ _ _ _⟩
theorem OwnAt.mono {α : Type} {w W : World} {B : Nat} {e : TypeId} {n : Nat} {R R' : α → List Value → Prop} {v : Value} {l : List α} (h : OwnAt w B e n R v l) (hg : w.grows W) (hR : ∀ x ∈ l, ∀ cs, R x cs → R' x cs) : OwnAt W B e n R' v l := by
  obtain ⟨css, h1, h2, h3⟩ := h
  exact ⟨css, h1, fun i x cs hx hc => ⟨(h2 i x cs hx hc).1, hR x (List.mem_of_getElem? hx) cs (h2 i x cs hx hc).2⟩, h3.grows hg⟩
theorem eltAt.cell {w : World} {g off : Nat} {cs : List Value} (h : eltAt w g off cs) {j : Nat} {u : Value} (hj : cs[j]? = some u) : w.cell? ⟨g, off + j, none⟩ = some u := by
  obtain ⟨h1, h2⟩ := h
  rw [World.cell?_row]
  unfold segOk at h1
  split at h1
  · rename_i c t fr hr
    rw [hr] at h2 ⊢
    have hle : off + cs.length ≤ c.size := of_decide_eq_true h1
    have hjl : j < cs.length := (List.getElem?_eq_some_iff.1 hj).1
    have e : c.extract off (off + cs.length) = cs.toArray := by
      have : Value.agg (c.extract off (off + cs.length)) = .agg cs.toArray := h2
      injection this
    show c[off + j]? = some u
    have := congrArg (fun x => x[j]?) e
    simp only [Array.getElem?_extract, List.getElem?_toArray, hj] at this
    rw [if_pos (by omega)] at this
    exact this
  · cases h1
/-- a slice's cells, side by side -/
theorem SlAt.cells {α : Type} {w : World} {S : Nat → Prop} {n : Nat} {R : α → List Value → Prop} {a : Option Addr} {len cap : Nat} {l : List α} (hn : 0 < n) (h : SlAt w S n R (.slice a len cap) l) :
    len = l.length ∧ ∃ css : List (List Value), css.length = l.length ∧ (∀ (i : Nat) (x : α) (cs : List Value), l[i]? = some x → css[i]? = some cs → cs.length = n ∧ R x cs) ∧ css.flatten.length = l.length * n ∧
      (l.length = 0 ∨ ∃ ad, a = some ad ∧ ∀ j u, css.flatten[j]? = some u → w.cell? (ad.add j) = some u) := by
  obtain ⟨a', cap', h1, h2, h3, h4⟩ := h
  injection h1 with e1 e2 e3
  subst e1; subst e2
  refine ⟨rfl, ?_⟩
  rcases h4 with rfl | ⟨g, off, rfl, _, h7⟩
  · exact ⟨[], rfl, fun i x cs hx => by simp at hx, by simp, .inl rfl⟩
  · have hpick : ∀ i : Nat, ∃ cs : List Value, ∀ x, l[i]? = some x → cs.length = n ∧ eltAt w g (off + i * n) cs ∧ R x cs := fun i => by
      cases hx : l[i]? with
      | none => exact ⟨[], fun x hx' => by simp at hx'⟩
      | some x =>
        obtain ⟨cs, a, b, c⟩ := h7 i x hx
        exact ⟨cs, fun y hy => by cases hy; exact ⟨a, b, c⟩⟩
    obtain ⟨f, hf⟩ := Classical.axiomOfChoice hpick
    have hget : ∀ i, i < l.length → ((List.range l.length).map f)[i]? = some (f i) := fun i hi => by simp [hi]
    have hlen : ∀ c ∈ (List.range l.length).map f, c.length = n := fun c hc => by
      obtain ⟨i, hi, rfl⟩ := List.mem_map.1 hc
      have hil := List.mem_range.1 hi
      exact (hf i l[i] (by simp [hil])).1
    have hfl : ((List.range l.length).map f).flatten.length = l.length * n := by
      rw [List.length_flatten, List.map_map]
      have : (List.range l.length).map (List.length ∘ f) = List.replicate l.length n := by
        rw [List.eq_replicate_iff]
        refine ⟨by simp, fun b hb => ?_⟩
        obtain ⟨i, hi, rfl⟩ := List.mem_map.1 hb
        exact hlen (f i) (List.mem_map_of_mem hi)
      rw [this, List.sum_replicate_nat]
    refine ⟨(List.range l.length).map f, by simp, fun i x cs hx hcs => ?_, hfl, .inr ⟨_, rfl, fun j u hj => ?_⟩⟩
    · have hil := (List.getElem?_eq_some_iff.1 hx).1
      rw [hget i hil] at hcs; cases hcs
      exact ⟨(hf i x hx).1, (hf i x hx).2.2⟩
    · have hjl : j < l.length * n := by rw [← hfl]; exact (List.getElem?_eq_some_iff.1 hj).1
      have hi : j / n < l.length := Nat.div_lt_of_lt_mul (by rw [Nat.mul_comm]; exact hjl)
      have e : j / n * n + j % n = j := Nat.div_add_mod' j n
      have hfg := flatten_get _ (j / n) (f (j / n)) (j % n) hlen (hget _ hi) (Nat.mod_lt _ hn)
      rw [e, hj] at hfg
      have := (hf (j / n) l[j / n] (by simp [hi])).2.1.cell hfg.symm
      rw [Addr.add_lit]
      rw [show off + j = off + j / n * n + j % n by omega]
      exact this
/-- more behind it -/
theorem OwnAt.append {α : Type} {W : World} {B : Nat} {e : TypeId} {n : Nat} {R R' : α → List Value → Prop} {v' : Value} {l l' : List α} {css css' : List (List Value)}
    (h1 : css.length = l.length) (h2 : ∀ (i : Nat) (x : α) (cs : List Value), l[i]? = some x → css[i]? = some cs → cs.length = n ∧ R x cs)
    (h1' : css'.length = l'.length) (h2' : ∀ (i : Nat) (x : α) (cs : List Value), l'[i]? = some x → css'[i]? = some cs → cs.length = n ∧ R x cs)
    (hR : ∀ x cs, R x cs → R' x cs) (ho : W.ownsRow B e n v' (l.length + l'.length) (css.flatten ++ css'.flatten)) : OwnAt W B e n R' v' (l ++ l') := by
  refine ⟨css ++ css', by simp [h1, h1'], fun i x cs hx hc => ?_, by rw [List.flatten_append, List.length_append]; exact ho⟩
  by_cases hi : i < l.length
  · rw [List.getElem?_append_left hi] at hx
    rw [List.getElem?_append_left (by omega)] at hc
    have := h2 i x cs hx hc
    exact ⟨this.1, hR _ _ this.2⟩
  · rw [List.getElem?_append_right (by omega)] at hx
    rw [List.getElem?_append_right (by omega), h1] at hc
    have := h2' _ x cs hx hc
    exact ⟨this.1, hR _ _ this.2⟩
theorem own_slice {w : World} {B : Nat} {e : TypeId} {size : Nat} {v : Value} {n : Nat} {xs : List Value} (h : w.ownsRow B e size v n xs) : ∃ a c, v = .slice a n c := by
  rcases h.2 with ⟨rfl, rfl⟩ | ⟨g, cap, cur, rfl, _⟩
  · exact ⟨_, _, rfl⟩
  · exact ⟨_, _, rfl⟩
theorem World.grows.cell_eq {w W : World} (hg : w.grows W) {p : Addr} {u : Value} (h : w.cell? p = some u) : W.cell? p = some u := by
  have hlt := World.block_lt_of_cell? w p h
  obtain ⟨x, rfl⟩ := hg
  rw [World.cell?_of_block (World.heap_plus_lt _ _ hlt)]; exact h
end Go

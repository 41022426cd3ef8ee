/- LAWS: a drawn region in the text's order, over worlds in which some rows stand as they did; append onto a row of the call's own in its chain. No condition. -/
import Derived.Test.YthcaphoejplecaaGreatDoorSeg
import Derived.Test.YthcaphoejplecaaGreatDoorSl
import Derived.Test.YthcaphoejplecaaGreatDoorAppB
import Derived.Test.YthcaphoejplecaaGreatDoorMem
set_option linter.unusedSimpArgs false
set_option linter.unusedVariables false
namespace Go
open Go.RowKit
/-- some rows stand as in w -/
def rowsAs (w : World) (bs : List Nat) (W : World) : Prop := ∀ b ∈ bs, W.row b = w.row b
theorem rowsAs.of {w W : World} {bs : List Nat} {b : Nat} {o : Option Obj} (h : rowsAs w bs W) (hr : w.row b = o) (hb : b ∈ bs) : W.row b = o := (h b hb).trans hr
theorem rowsAs.drew (w : World) (bs : List Nat) : rowsAs w bs { w with drawn := w.drawn + 1 } := fun _ _ => rfl
theorem rowsAs_nil {w W : World} : rowsAs w [] W := fun b hb => by cases hb
theorem rowsAs_cons {w W : World} {b : Nat} {bs : List Nat} (h1 : W.row b = w.row b) (h2 : rowsAs w bs W) : rowsAs w (b :: bs) W := fun x hx => by
  rcases List.mem_cons.1 hx with rfl | hx
  · exact h1
  · exact h2 x hx
theorem rowsAs.trans {w W V : World} {bs : List Nat} (h : rowsAs w bs W) (h2 : ∀ b ∈ bs, V.row b = W.row b) : rowsAs w bs V := fun b hb => (h2 b hb).trans (h b hb)
theorem rowsAs.grow {w W V : World} {bs : List Nat} (h : rowsAs w bs W) (hg : W.grows V) (hl : ∀ b ∈ bs, b < W.heap.size) : rowsAs w bs V := h.trans fun b hb => hg.row_eq (hl b hb)
theorem rowsAs.grown {w W V : World} {bs : List Nat} {row : Option Nat} (h : rowsAs w bs W) (hg : W.grownBy V row) (hl : ∀ b ∈ bs, b < W.heap.size ∧ some b ≠ row) : rowsAs w bs V := h.trans fun b hb => by
  unfold World.row
  rw [hg.block b (hl b hb).1 (hl b hb).2]
/-- append onto a row of the call's own, in a chain of a drawn region -/
theorem wpSeqL_appO {P : Program} {S : World → Prop} {F : Act → World → Prop} {w : World} {ops : Array Oper} {rest : List Oper} {o : Oper} {a : Act} (B : Nat) (hgd : o.guard = none) (hfr : freeOp o = false) (s x : Operand) (t : TypeId)
    (ho : o.op = .call { callee := .builtin .append, args := #[s, x], argTypes := #[t, t] })
    (e : TypeId) (z : Value) (size bytes : Nat) (ht : P.underlying t = some (.slice e)) (hi : (P.info? e).map (fun i => (i.zero, i.size, i.bytes)) = some (some z, size, bytes))
    (hzs : z.cells.size = size) (hsz : 0 < size) (hby : bytes ≤ 1048576)
    (v : Value) (n : Nat) (xs : List Value) (hs : a.eval s = v) (hown : w.ownsRow B e size v n xs)
    (A : Option Addr) (m c : Nat) (news : List Value) (hx : a.eval x = .slice A m c) (hl : news.length = m * size) (hA : A = none ∧ m = 0 ∧ c = 0 ∨ ∃ ad, A = some ad ∧ ∀ j u, news[j]? = some u → w.cell? (ad.add j) = some u) (h1 : ∀ u ∈ news, u.oneCell' = true)
    (hn : n + m ≤ 67108864) (hB2 : B ≤ w.heap.size)
    (h : ∀ v' w', w'.ownsRow B e size v' (n + m) (xs ++ news) → w.grownBy w' v.ownBlock → (v'.ownBlock = v.ownBlock ∨ v'.ownBlock = some w.heap.size) → S w' ∧ wpSeqL P ops S F rest (a.put o.dst v') w') :
    wpSeqL P ops S F (o :: rest) a w := by
  obtain ⟨i, hi0, hzz⟩ := Option.map_eq_some_iff.1 hi
  simp only [Prod.mk.injEq] at hzz
  obtain ⟨hz, hsz0, hby0⟩ := hzz
  refine wpSeqL_link hfr fun K hK => ?_
  rw [if_pos (by simp [Region.wanted, hgd])]
  obtain ⟨v', w', hr, h2, h3, h5⟩ : ∃ v' w', (Builtin.append_ #[t, t] o.type #[v, .slice A m c]).run P w = .ok v' w' ∧ w'.ownsRow B e size v' (n + m) (xs ++ news) ∧ w.grownBy w' v.ownBlock ∧ (v'.ownBlock = v.ownBlock ∨ v'.ownBlock = some w.heap.size) := by
    rcases hA with ⟨rfl, rfl, rfl⟩ | ⟨ad, rfl, hc⟩
    · obtain rfl : news = [] := List.length_eq_zero_iff.1 (by simpa using hl)
      exact ⟨v, w, run_append_of_nil w B t o.type e i size ht hi0 v n xs hown 0, by simpa using hown, World.grownBy.refl _ _, .inl rfl⟩
    · obtain ⟨v', w', q1, q2, q3, _, q5⟩ := run_append_own_at (P := P) w B t o.type e i z size bytes ht hi0 hz hsz0 hby0 hzs hsz v n xs hown ad m c news hl hc h1 (by simp only [maxLen]; omega)
        (Nat.le_trans (Nat.mul_le_mul hn hby) (by decide)) hB2
      exact ⟨v', w', q1, q2, q3, q5⟩
  unfold Oper.chain execOp
  simp only [ho, resolve, invoke, builtin, Sem.run_bind, Sem.run_pure, Result.andThen_ok, List.map_toArray, List.map_cons, List.map_nil, hs, hx, hr]
  obtain ⟨k1, k2⟩ := h v' w' h2 h3 h5
  exact hK _ _ k1 k2
end Go

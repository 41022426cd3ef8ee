/- LAWS: append onto a row of the call's own, in a region that draws its order; an empty row. No condition; laws over any program. -/
import Derived.Test.YtjfccilmlmimaaaAppB
import Derived.Test.YtjfccilmlmimaaaSl
import Derived.Test.YtjfccilmlmimaaaMa
set_option linter.unusedSimpArgs false
set_option linter.unusedVariables false
namespace Go
open Go.RowKit
theorem wpSeqL_own {P : Program} {S : World → Prop} {F : Act → World → Prop} {w : World} {ops : Array Oper} {rest : List Oper} {o : Oper} {a : Act} (w0 : World) (B : Nat) (hgd : o.guard = none) (hfr : freeOp o = false) (s x : Operand) (t : TypeId)
    (ho : o.op = .call { callee := .builtin .append, args := #[s, x], argTypes := #[t, t] })
    (e : TypeId) (z : Value) (size bytes : Nat) (ht : P.underlying t = some (.slice e)) (hi : (P.info? e).map (fun i => (i.zero, i.size, i.bytes)) = some (some z, size, bytes))
    (hzs : z.cells.size = size) (hsz : 0 < size) (hby : bytes ≤ 1048576)
    (v : Value) (n : Nat) (xs : List Value) (hs : a.eval s = v) (hown : w.ownsRow B e size v n xs)
    (ad : Addr) (m c : Nat) (news : List Value) (hx : a.eval x = .slice (some ad) m c) (hl : news.length = m * size) (hnews : ∀ j u, news[j]? = some u → w.cell? (ad.add j) = some u) (h1 : ∀ u ∈ news, u.oneCell' = true)
    (hn : n + m ≤ 67108864) (hg0 : w0.grows w) (hB : w0.heap.size ≤ B) (hB2 : B ≤ w.heap.size)
    (h : ∀ v' w', w0.grows w' → Hid (w'.ownsRow B e size v' (n + m) (xs ++ news)) → Hid (∀ k, k < B → w'.row k = w.row k) → Hid (w.grownBy w' v.ownBlock) → Hid (v'.ownBlock = v.ownBlock ∨ v'.ownBlock = some w.heap.size) → S w' ∧ wpSeqL P ops S F rest (a.put o.dst v') w') :
    wpSeqL P ops S F (o :: rest) a w := by
  obtain ⟨i, hi0, hzz⟩ := Option.map_eq_some_iff.1 hi
  simp only [Prod.mk.injEq] at hzz
  obtain ⟨hz, hsz0, hby0⟩ := hzz
  refine wpSeqL_link hfr fun K hK => ?_
  rw [if_pos (by simp [Region.wanted, hgd])]
  obtain ⟨v', w', hr, h2, h3, h4, h5⟩ := run_append_own_at (P := P) w B t o.type e i z size bytes ht hi0 hz hsz0 hby0 hzs hsz v n xs hown ad m c news hl hnews h1 (by simp only [maxLen]; omega)
    (Nat.le_trans (Nat.mul_le_mul hn hby) (by decide)) hB2
  unfold Oper.chain execOp
  simp only [ho, resolve, invoke, builtin, Sem.run_bind, Sem.run_pure, Result.andThen_ok, List.map_toArray, List.map_cons, List.map_nil, hs, hx, hr]
  have hlt := hown.lt
  obtain ⟨k1, k2⟩ := h v' w' (hg0.grown h3 (fun k hk => Nat.le_trans hB (hlt k hk).1)) (Lib.hid h2) (Lib.hid fun k hk => by
    by_cases hks : k < w.heap.size
    · unfold World.row
      rw [h3.block k hks (fun e => by have := (hlt k e.symm).1; omega)]
    · omega) (Lib.hid h3) (Lib.hid h5)
  exact hK _ _ k1 k2
theorem ownsRow_empty {w : World} {B g : Nat} {e : TypeId} {size : Nat} (h : w.row g = some (.cells #[] e)) (hB : B ≤ g) : w.ownsRow B e size (.slice (some ⟨g, 0, none⟩) 0 0) 0 [] :=
  ⟨by simp, .inr ⟨g, 0, #[], rfl, hB, h, Nat.le_refl _, Nat.zero_le _, by simp, by simp⟩⟩
end Go

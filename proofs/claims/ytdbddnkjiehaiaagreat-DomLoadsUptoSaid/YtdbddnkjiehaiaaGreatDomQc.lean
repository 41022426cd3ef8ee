/- LAWS: append onto a row of the call's own, in a chain; one element of a list changed. No condition. -/
import Derived.Test.YtdbddnkjiehaiaaGreatDomQb
set_option linter.unusedSimpArgs false
set_option linter.unusedVariables false
namespace Go
open Go.RowKit
/-- append onto a row of the call's own, in a chain of a drawn region -/
theorem wpSeqL_appO {P : Program} {S : World → Prop} {F : Act → World → Prop} {w : World} {ops : Array Oper} {rest : List Oper} {o : Oper} {a : Act} (B : Nat) (hgd : o.guard = none) (hfr : freeOp o = false) (s x : Operand) (t : TypeId)
    (ho : o.op = .call { callee := .builtin .append, args := #[s, x], argTypes := #[t, t] })
    (e : TypeId) (z : Value) (size bytes : Nat) (ht : P.underlying t = some (.slice e)) (hi : (P.info? e).map (fun i => (i.zero, i.size, i.bytes)) = some (some z, size, bytes))
    (hzs : z.cells.size = size) (hsz : 0 < size) (hby : bytes ≤ 1048576)
    (v : Value) (n : Nat) (xs : List Value) (hs : a.eval s = v) (hown : w.ownsRow B e size v n xs)
    (A : Option Addr) (m c : Nat) (news : List Value) (hx : a.eval x = .slice A m c) (hl : news.length = m * size) (hA : A = none ∧ m = 0 ∧ c = 0 ∨ ∃ ad, A = some ad ∧ ∀ j u, news[j]? = some u → w.cell? (ad.add j) = some u) (h1 : ∀ u ∈ news, u.oneCell' = true)
    (hn : n + m ≤ 67108864) (hB2 : B ≤ w.heap.size)
    (h : ∀ v' w', w'.ownsRow B e size v' (n + m) (xs ++ news) → w.grownBy w' v.ownBlock → (v'.ownBlock = v.ownBlock ∨ v'.ownBlock = some w.heap.size) → S w' ∧ wpSeqL P ops S F rest (a.put o.dst v') w') :
    wpSeqL P ops S F (o :: rest) a w := by
  obtain ⟨i, hi0, hzz⟩ := Option.map_eq_some_iff.1 hi
  simp only [Prod.mk.injEq] at hzz
  obtain ⟨hz, hsz0, hby0⟩ := hzz
  refine wpSeqL_link hfr fun K hK => ?_
  rw [if_pos (by simp [Region.wanted, hgd])]
  obtain ⟨v', w', hr, h2, h3, h5⟩ : ∃ v' w', (Builtin.append_ #[t, t] o.type #[v, .slice A m c]).run P w = .ok v' w' ∧ w'.ownsRow B e size v' (n + m) (xs ++ news) ∧ w.grownBy w' v.ownBlock ∧ (v'.ownBlock = v.ownBlock ∨ v'.ownBlock = some w.heap.size) := by
    rcases hA with ⟨rfl, rfl, rfl⟩ | ⟨ad, rfl, hc⟩
    · obtain rfl : news = [] := List.length_eq_zero_iff.1 (by simpa using hl)
      exact ⟨v, w, run_append_of_nil w B t o.type e i size ht hi0 v n xs hown 0, by simpa using hown, World.grownBy.refl _ _, .inl rfl⟩
    · obtain ⟨v', w', q1, q2, q3, _, q5⟩ := run_append_own_at (P := P) w B t o.type e i z size bytes ht hi0 hz hsz0 hby0 hzs hsz v n xs hown ad m c news hl hc h1 (by simp only [maxLen]; omega)
        (Nat.le_trans (Nat.mul_le_mul hn hby) (by decide)) hB2
      exact ⟨v', w', q1, q2, q3, q5⟩
  unfold Oper.chain execOp
  simp only [ho, resolve, invoke, builtin, Sem.run_bind, Sem.run_pure, Result.andThen_ok, List.map_toArray, List.map_cons, List.map_nil, hs, hx, hr]
  obtain ⟨k1, k2⟩ := h v' w' h2 h3 h5
  exact hK _ _ k1 k2
theorem layL_app (X Y : List Value) (o : Nat) (vs : List Value) (h : o + vs.length ≤ X.length) : layL (X ++ Y) o vs = layL X o vs ++ Y := by
  unfold layL
  rw [List.take_append_of_le_length (by omega), List.drop_append_of_le_length (by omega)]; simp
/-- a row of the call's own, some cells written -/
theorem own_lay {w W : World} {B n g k cap o : Nat} {e : TypeId} {xs vs : List Value} (h : w.ownsRow B e n (.slice (some ⟨g, 0, none⟩) k cap) k xs) (ho : o + vs.length ≤ k * n) (hW : W.row g = (w.setCells g o vs).row g) :
    W.ownsRow B e n (.slice (some ⟨g, 0, none⟩) k cap) k (layL xs o vs) := by
  obtain ⟨hl, ⟨h0, _⟩ | ⟨g', cap', cur, h0, hb, hg, hnc, hcm, hcs, ht⟩⟩ := h
  · cases h0
  injection h0 with h0 _ hc
  injection h0 with h0
  injection h0 with h0
  subst h0; subst hc
  have m2 : k * n ≤ cap * n := Nat.mul_le_mul_right n hnc
  have hcl : cur.toList.length = cap * n := by simpa using hcs
  have r := row_lay g vs o w cur.toList e (0, 0) (by rw [← arr_list]; exact hg) (by omega)
  refine ⟨by rw [layL_len _ _ _ (by omega)]; exact hl, .inr ⟨g, cap, _, rfl, hb, hW.trans r, hnc, hcm, by rw [List.size_toArray, layL_len _ _ _ (by omega)]; exact hcl, ?_⟩⟩
  show List.take _ (layL _ _ _) = _
  rw [← ht]
  have e1 : layL cur.toList o vs = layL (cur.toList.take (k * n)) o vs ++ cur.toList.drop (k * n) := by
    conv => lhs; rw [← List.take_append_drop (k * n) cur.toList]
    rw [layL_app _ _ _ _ (by rw [List.length_take]; omega)]
  have e2 : (layL (cur.toList.take (k * n)) o vs).length = k * n := by rw [layL_len _ _ _ (by rw [List.length_take]; omega), List.length_take]; omega
  rw [e1, List.take_append_of_le_length (by omega), List.take_of_length_le (by omega)]
theorem flat_lay {css : List (List Value)} (hl : ∀ c ∈ css, c.length = 11) {k : Nat} {c : List Value} (hk : css[k]? = some c) (j : Nat) (vs : List Value) (hj : j + vs.length ≤ 11) : layL css.flatten (k * 11 + j) vs = (css.set k (layL c j vs)).flatten := by
  obtain ⟨hkl, rfl⟩ := List.getElem?_eq_some_iff.1 hk
  have hd : css = css.take k ++ css[k] :: css.drop (k + 1) := by rw [← List.drop_eq_getElem_cons hkl, List.take_append_drop]
  have hc := hl _ (List.getElem_mem hkl)
  have hA : (css.take k).flatten.length = k * 11 := by
    have : ∀ (l : List (List Value)), (∀ c ∈ l, c.length = 11) → l.flatten.length = l.length * 11 := fun l => by
      induction l with
      | nil => simp
      | cons a t ih => intro h; rw [List.flatten_cons, List.length_append, h a (by simp), ih (fun c hc => h c (by simp [hc]))]; simp; omega
    rw [this _ (fun c hc => hl c (List.mem_of_mem_take hc)), List.length_take, Nat.min_eq_left (by omega)]
  have e1 : css.flatten = (css.take k).flatten ++ (css[k] ++ (css.drop (k + 1)).flatten) := by
    conv => lhs; rw [hd]
    rw [List.flatten_append, List.flatten_cons]
  have e2 : (css.set k (layL css[k] j vs)).flatten = (css.take k).flatten ++ (layL css[k] j vs ++ (css.drop (k + 1)).flatten) := by
    rw [List.set_eq_take_append_cons_drop, if_pos hkl, List.flatten_append, List.flatten_cons]
  rw [e1, e2]
  generalize (css.take k).flatten = A at *
  generalize css[k] = C at *
  generalize (css.drop (k + 1)).flatten = D at *
  unfold layL
  rw [← hA]
  have t1 : (A ++ (C ++ D)).take (A.length + j) = A ++ C.take j := by
    rw [List.take_length_add_append, List.take_append_of_le_length (by omega)]
  have t2 : (A ++ (C ++ D)).drop (A.length + j + vs.length) = C.drop (j + vs.length) ++ D := by
    rw [Nat.add_assoc, List.drop_length_add_append, List.drop_append_of_le_length (by omega)]
  rw [t1, t2]; simp
/-- one element of a list changed -/
theorem updE_set {l : List El} (h : l.Pairwise fun a b => a.id < b.id) {k : Nat} {e : El} (hk : l[k]? = some e) (f : El → El) : updE l e.id f = l.set k (f e) := by
  obtain ⟨hkl, rfl⟩ := List.getElem?_eq_some_iff.1 hk
  unfold updE
  apply List.ext_getElem?
  intro i
  rw [List.getElem?_map, List.getElem?_set]
  by_cases hi : k = i
  · subst hi
    rw [if_pos rfl, if_pos hkl, List.getElem?_eq_getElem hkl]
    show some (if _ then _ else _) = _
    rw [if_pos rfl]
  · rw [if_neg hi]
    cases hx : l[i]? with
    | none => rfl
    | some x =>
      obtain ⟨hil, rfl⟩ := List.getElem?_eq_some_iff.1 hx
      show some (if _ then _ else _) = _
      rw [if_neg (fun hh => hi (by
        have := List.pairwise_iff_getElem.1 h
        rcases Nat.lt_trichotomy k i with q | q | q
        · have := this k i hkl hil q; omega
        · exact q
        · have := this i k hil hkl q; omega))]
end Go
namespace Go.Proofs.YtdbddnkjiehaiaaGreat
open Go.Maps Go.RowKit Go.Sort
theorem OwnAt.lay {w W : World} {B g k cap : Nat} {l : List El} {R R' : El → List Value → Prop} {e e' : El} {j : Nat} {vs : List Value} (h : OwnAt w B 49 11 R (.slice (some ⟨g, 0, none⟩) l.length cap) l) (hk : l[k]? = some e) (hj : j + vs.length ≤ 11)
    (hW : W.row g = (w.setCells g (k * 11 + j) vs).row g) (hR : ∀ x cs, R x cs → R' x cs) (he : ∀ cs, cs.length = 11 → R e cs → R' e' (layL cs j vs)) : OwnAt W B 49 11 R' (.slice (some ⟨g, 0, none⟩) l.length cap) (l.set k e') := by
  obtain ⟨css, h1, h2, h3⟩ := h
  have hkl := (List.getElem?_eq_some_iff.1 hk).1
  have hkc : css[k]? = some css[k] := List.getElem?_eq_getElem (by omega)
  have hlen : ∀ c ∈ css, c.length = 11 := fun c hc => by
    obtain ⟨i, hi, rfl⟩ := List.mem_iff_getElem.1 hc
    exact (h2 i l[i] _ (List.getElem?_eq_getElem (by omega)) (List.getElem?_eq_getElem hi)).1
  have ho := own_lay (W := W) h3 (o := k * 11 + j) (vs := vs) (by have := Nat.mul_le_mul_right 11 hkl; omega) hW
  rw [flat_lay hlen hkc j vs hj] at ho
  refine ⟨css.set k (layL css[k] j vs), by simp [h1], fun i x cs q1 q2 => ?_, by rw [List.length_set]; exact ho⟩
  rw [List.getElem?_set] at q1 q2
  by_cases hi : k = i
  · subst hi
    rw [if_pos rfl, if_pos hkl] at q1
    rw [if_pos rfl, if_pos (by omega)] at q2
    cases q1; cases q2
    have hc := hlen _ (List.getElem_mem (by omega : k < css.length))
    exact ⟨by rw [layL_len _ _ _ (by omega)]; exact hc, he _ hc (h2 k e _ hk hkc).2⟩
  · rw [if_neg hi] at q1 q2
    exact ⟨(h2 i x cs q1 q2).1, hR x cs (h2 i x cs q1 q2).2⟩
end Go.Proofs.YtdbddnkjiehaiaaGreat

/- PLAIN: changes of environments, one behind the other. No condition; no program's run. -/
import Derived.Test.YtkmpnkgelaaebaaDoorEnvRC
set_option linter.unusedSimpArgs false
set_option linter.unusedVariables false
namespace Go
open Go.RowKit Go.Proofs.YtkmpnkgelaaebaaDoor

/-- may what it was given be? -/
def Od.ok (o : Od) : Bool :=
  if o.k0 = 2 then sizeB o.a o.b && sizeB o.c o.d
  else if o.k0 = 3 then sizeB o.a o.b
  else if o.k0 = 13 then sizeB o.a o.b && (o.b == 1)
  else if o.k0 = 14 then true
  else (fieldOf o.n).isSome && hasW (wordsOf o.n) o.wd
/-- the environment changed -/
def En.upd (e : En) (o : Od) : En :=
  if o.k0 = 2 then { e with w1 := o.a, w2 := o.b, h1 := o.c, h2 := o.d }
  else if o.k0 = 3 then { e with f1 := o.a, f2 := o.b }
  else if o.k0 = 13 then { e with c1 := o.a, c2 := o.b }
  else if o.k0 = 14 then { e with p := o.on }
  else e.put ((fieldOf o.n).getD 0) o.wd
theorem res_eq (e : En) (o : Od) : o.res e = if o.ok then some (e.upd o) else none := by
  unfold Od.res Od.ok En.upd
  split
  · rfl
  split
  · rfl
  split
  · rfl
  split
  · rfl
  unfold En.turn
  cases fieldOf o.n <;> simp
theorem chg_ok {e : En} {o : Od} (h : e.may = true) (ho : o.ok = true) : chgE e (o.res e) = e.upd o ∧ chgW e o.why (o.res e) = 0 := by
  rw [res_eq, if_pos ho]; unfold chgE chgW; rw [if_pos h, if_pos h]; exact ⟨rfl, rfl⟩
theorem why_ne {o : Od} (ho : o.ok = false) : o.why ≠ 0 := by
  unfold Od.why; unfold Od.ok at ho
  split
  · decide
  split
  · decide
  split
  · decide
  split
  · rename_i h1 h2 h3 h4
    rw [if_neg h1, if_neg h2, if_neg h3, if_pos h4] at ho; cases ho
  · decide
theorem chg_no {e : En} {o : Od} (h : e.may = false ∨ o.ok = false) : chgE e (o.res e) = En.zero ∧ chgW e o.why (o.res e) ≠ 0 := by
  rw [res_eq]; unfold chgE chgW
  cases hm : e.may with
  | false => simp
  | true =>
    rcases h with h | h
    · rw [hm] at h; cases h
    · rw [h]; simp; exact why_ne h

theorem fieldOf_is {n : ByteArray} {k : Nat} (h : fieldOf n = some k) : (k = 10 ∧ n.toList = nHover.toList) ∨ (k = 11 ∧ n.toList = nPointer.toList) ∨ (k = 9 ∧ n.toList = nScheme.toList) ∨ (k = 12 ∧ n.toList = nMotion.toList) := by
  unfold fieldOf at h
  split at h
  · rename_i h1; simp at h; exact .inl ⟨h.symm, h1.trans (by decide +kernel)⟩
  split at h
  · rename_i h1; simp at h; exact .inr (.inl ⟨h.symm, h1.trans (by decide +kernel)⟩)
  split at h
  · rename_i h1; simp at h; exact .inr (.inr (.inl ⟨h.symm, h1.trans (by decide +kernel)⟩))
  split at h
  · rename_i h1; simp at h; exact .inr (.inr (.inr ⟨h.symm, h1.trans (by decide +kernel)⟩))
  cases h
theorem wordsOf_congr {n m : ByteArray} (h : n.toList = m.toList) : wordsOf n = wordsOf m := by unfold wordsOf; rw [h]
theorem upd_may {e : En} {o : Od} (h : e.may = true) (ho : o.ok = true) : (e.upd o).may = true := by
  unfold En.may at h ⊢
  simp only [Bool.and_eq_true] at h ⊢
  obtain ⟨h1, h2, h3, h4, h5, h6, h7, h8, h9⟩ := h
  unfold Od.ok at ho
  unfold En.upd
  split
  · rename_i hk; rw [if_pos hk, Bool.and_eq_true] at ho; exact ⟨ho.1, ho.2, h3, h4, h5, h6, h7, h8, h9⟩
  rename_i n1; rw [if_neg n1] at ho
  split
  · rename_i hk; rw [if_pos hk] at ho; exact ⟨h1, h2, ho, h4, h5, h6, h7, h8, h9⟩
  rename_i n2; rw [if_neg n2] at ho
  split
  · rename_i hk; rw [if_pos hk, Bool.and_eq_true] at ho; exact ⟨h1, h2, h3, ho.1, ho.2, h6, h7, h8, h9⟩
  rename_i n3; rw [if_neg n3] at ho
  split
  · exact ⟨h1, h2, h3, h4, h5, h6, h7, h8, h9⟩
  rename_i n4; rw [if_neg n4, Bool.and_eq_true] at ho
  obtain ⟨k, hk⟩ := Option.isSome_iff_exists.1 ho.1
  rw [hk]
  rcases fieldOf_is hk with ⟨rfl, hn⟩ | ⟨rfl, hn⟩ | ⟨rfl, hn⟩ | ⟨rfl, hn⟩
  · rw [wordsOf_congr hn] at ho; exact ⟨h1, h2, h3, h4, h5, ho.2, h7, h8, h9⟩
  · rw [wordsOf_congr hn] at ho; exact ⟨h1, h2, h3, h4, h5, h6, ho.2, h8, h9⟩
  · rw [wordsOf_congr hn] at ho; exact ⟨h1, h2, h3, h4, h5, h6, h7, ho.2, h9⟩
  · rw [wordsOf_congr hn] at ho; exact ⟨h1, h2, h3, h4, h5, h6, h7, h8, ho.2⟩
theorem upd_twice (e : En) (o : Od) : (e.upd o).upd o = e.upd o := by
  unfold En.upd
  split
  · rfl
  split
  · rfl
  split
  · rfl
  split
  · rfl
  unfold En.put
  split
  · rfl
  split
  · rfl
  split <;> rfl
theorem upd_swap {e : En} {a b : Od} (ha : a.ok = true) (hb : b.ok = true) (h : a.k0 ≠ b.k0 ∨ (a.k0 = 4 ∧ a.n.toList ≠ b.n.toList)) (h4a : a.five = a) (h4b : b.five = b) : (e.upd a).upd b = (e.upd b).upd a := by
  have hka : a.k0 = 2 ∨ a.k0 = 3 ∨ a.k0 = 13 ∨ a.k0 = 14 ∨ a.k0 = 4 := by
    rw [← h4a]; unfold Od.five; split
    · rename_i h; simp [Od.is] at h; omega
    · simp
  have hkb : b.k0 = 2 ∨ b.k0 = 3 ∨ b.k0 = 13 ∨ b.k0 = 14 ∨ b.k0 = 4 := by
    rw [← h4b]; unfold Od.five; split
    · rename_i h; simp [Od.is] at h; omega
    · simp
  clear h4a h4b
  by_cases hab : a.k0 = 4 ∧ b.k0 = 4
  · obtain ⟨h1, h2⟩ := hab
    have hn : a.n.toList ≠ b.n.toList := by
      rcases h with h | h
      · omega
      · exact h.2
    unfold Od.ok at ha hb
    simp only [h1, h2, Int.reduceEq, if_false, Bool.and_eq_true] at ha hb
    obtain ⟨k, hk⟩ := Option.isSome_iff_exists.1 ha.1
    obtain ⟨l, hl⟩ := Option.isSome_iff_exists.1 hb.1
    unfold En.upd
    simp only [h1, h2, Int.reduceEq, if_false, hk, hl, Option.getD_some]
    have hkl : k ≠ l := by
      intro hkl; subst hkl
      rcases fieldOf_is hk with ⟨rfl, x⟩ | ⟨rfl, x⟩ | ⟨rfl, x⟩ | ⟨rfl, x⟩ <;> rcases fieldOf_is hl with ⟨q, y⟩ | ⟨q, y⟩ | ⟨q, y⟩ | ⟨q, y⟩ <;> first | (exact absurd q (by decide)) | (exact hn (x.trans y.symm))
    rcases fieldOf_some hk with rfl | rfl | rfl | rfl <;> rcases fieldOf_some hl with rfl | rfl | rfl | rfl <;> first | (exact absurd rfl hkl) | rfl
  · have hne : a.k0 ≠ b.k0 := by
      rcases h with h | h
      · exact h
      · intro he; exact hab ⟨h.1, by omega⟩
    unfold En.upd
    rcases hka with h1 | h1 | h1 | h1 | h1 <;> rcases hkb with h2 | h2 | h2 | h2 | h2 <;> first | (exfalso; omega) | (simp only [h1, h2, Int.reduceEq, if_true, if_false]; done) | (simp only [h1, h2, Int.reduceEq, if_true, if_false]; unfold En.put; split <;> (try split) <;> (try split) <;> rfl)
end Go

/- PLAIN: trees of expressions that are no deeper than a number: what is told of them does not hang on how deep one looks. No condition; no program. -/
import Derived.Test.YthmicnjigfcljaaMo
import Derived.Test.YthmicnjigfcljaaQR
import Derived.Test.YthmicnjigfcljaaFmR
set_option linter.unusedSimpArgs false
set_option linter.unusedVariables false
namespace Go
open Go.RowKit

/-- no deeper than so -/
def fitE : Nat → Ex → Prop
  | 0, _ => False
  | m + 1, .mk _ _ _ _ kids => ∀ t ∈ kids, fitE m t
theorem ExAt_fit {w : World} : ∀ (m : Nat) (t : Ex) (cs : List Value), ExAt w m t cs → fitE m t
  | 0, _, _, h => h
  | m + 1, .mk k n d u kids, cs, h => by
    obtain ⟨_, _, _, _, a, cap, _, _, _, h8⟩ := h
    intro t ht
    rcases h8 with h8 | ⟨g, off, _, h10⟩
    · rw [h8] at ht; cases ht
    · obtain ⟨i, hi, rfl⟩ := List.mem_iff_getElem.1 ht
      obtain ⟨cs', _, y⟩ := h10 i kids[i] (by simp [hi])
      exact ExAt_fit m _ cs' y
theorem ExAt_up {w : World} : ∀ (m : Nat) (t : Ex) (cs : List Value), ExAt w m t cs → ExAt w (m + 1) t cs
  | 0, _, _, h => h.elim
  | m + 1, .mk k n d u kids, cs, h => by
    obtain ⟨h1, h2, h3, h4, a, cap, h5, h6, h7, h8⟩ := h
    refine ⟨h1, h2, h3, h4, a, cap, h5, h6, h7, ?_⟩
    rcases h8 with h8 | ⟨g, off, h9, h10⟩
    · exact .inl h8
    · exact .inr ⟨g, off, h9, fun i t hi => by
        obtain ⟨cs', x, y⟩ := h10 i t hi
        exact ⟨cs', x, ExAt_up m t cs' y⟩⟩
theorem szE_up : ∀ (m : Nat) (t : Ex), fitE m t → szE (m + 1) t = szE m t
  | 0, _, h => h.elim
  | m + 1, .mk k n d u kids, h => by
    show 1 + (kids.map (szE (m + 1))).sum = 1 + (kids.map (szE m)).sum
    rw [List.map_congr_left fun t ht => szE_up m t (h t ht)]
theorem kindE_up : ∀ (m : Nat) (t : Ex), fitE m t → kindE (m + 1) t = kindE m t
  | 0, _, h => h.elim
  | m + 1, .mk k n d u kids, h => by
    have e : kids.map (kindE (m + 1)) = kids.map (kindE m) := List.map_congr_left fun t ht => kindE_up m t (h t ht)
    conv => lhs; unfold kindE
    conv => rhs; unfold kindE
    rw [e]
theorem numE_up : ∀ (m : Nat) (t : Ex), fitE m t → numE (m + 1) t = numE m t
  | 0, _, h => h.elim
  | m + 1, .mk k n d u kids, h => by
    have e : kids.map (numE (m + 1)) = kids.map (numE m) := List.map_congr_left fun t ht => numE_up m t (h t ht)
    conv => lhs; unfold numE
    conv => rhs; unfold numE
    rw [e]
theorem mayE_up : ∀ (m left : Nat) (t : Ex), fitE m t → mayE (m + 1) left t = mayE m left t
  | 0, _, _, h => h.elim
  | m + 1, left, .mk k n d u kids, h => by
    have e : kids.all (mayE (m + 1) (left - 1)) = kids.all (mayE m (left - 1)) := by
      rw [Bool.eq_iff_iff, List.all_eq_true, List.all_eq_true]
      exact forall_congr' fun t => forall_congr' fun ht => by rw [mayE_up m (left - 1) t (h t ht)]
    conv => lhs; unfold mayE
    conv => rhs; unfold mayE
    rw [e]
theorem formE_up : ∀ (m : Nat) (t : Ex), fitE m t → formE (m + 1) t = formE m t
  | 0, _, h => h.elim
  | m + 1, .mk k n d u kids, h => by
    have e : kids.map (formE (m + 1)) = kids.map (formE m) := List.map_congr_left fun t ht => formE_up m t (h t ht)
    have e1 : (kids.filter fun t => kindE (m + 1) t != 2) = kids.filter fun t => kindE m t != 2 := List.filter_congr fun t ht => by rw [kindE_up m t (h t ht)]
    have e2 : (kids.filter fun t => kindE (m + 1) t == 2) = kids.filter fun t => kindE m t == 2 := List.filter_congr fun t ht => by rw [kindE_up m t (h t ht)]
    have e3 : (kids.filter fun t => kindE m t != 2).map (numE (m + 1)) = (kids.filter fun t => kindE m t != 2).map (numE m) := List.map_congr_left fun t ht => numE_up m t (h t (List.mem_filter.1 ht).1)
    have e4 : (kids.filter fun t => kindE m t == 2).map (formE (m + 1)) = (kids.filter fun t => kindE m t == 2).map (formE m) := List.map_congr_left fun t ht => formE_up m t (h t (List.mem_filter.1 ht).1)
    conv => lhs; unfold formE
    conv => rhs; unfold formE
    dsimp only
    rw [e, e1, e2, e3, e4]
theorem fitE_up : ∀ (m : Nat) (t : Ex), fitE m t → fitE (m + 1) t
  | 0, _, h => h.elim
  | m + 1, .mk k n d u kids, h => fun t ht => fitE_up m t (h t ht)
theorem ExAt_le {w : World} {m M : Nat} {t : Ex} {cs : List Value} (h : ExAt w m t cs) (hm : m ≤ M) : ExAt w M t cs ∧ szE M t = szE m t ∧ fitE M t := by
  induction hm with
  | refl => exact ⟨h, rfl, ExAt_fit m t cs h⟩
  | step _ ih => exact ⟨ExAt_up _ _ _ ih.1, (szE_up _ _ ih.2.2).trans ih.2.1, fitE_up _ _ ih.2.2⟩
/-- the sum of some -/
def sumT (l : List Ex) : Ex := .mk 2 0 0 0 l
theorem formE_sum (m : Nat) (l : List Ex) : formE (m + 1) (sumT l) = addF (l.map (formE m)) := by
  unfold sumT formE
  rw [if_neg (by decide)]
  dsimp only
  rw [if_pos rfl]
theorem szE_sum (m : Nat) (l : List Ex) : szE (m + 1) (sumT l) = 1 + (l.map (szE m)).sum := rfl
theorem sumT_at {W : World} {m g : Nat} {l : List Ex} (h0 : l ≠ []) (hl : l.length ≤ 9223372036854775807) (h : ∀ (i : Nat) (t : Ex), l[i]? = some t → ∃ cs', eltAt W g (i * 5) cs' ∧ ExAt W m t cs') :
    ExAt W (m + 1) (sumT l) (exL 2 0 0 0 (some ⟨g, 0, none⟩) l.length l.length) :=
  ⟨by simp [I64], by simp [I64], by simp [I64], by simp [I64], _, _, rfl, Nat.le_refl _, hl, .inr ⟨g, 0, rfl, fun i t hi => by rw [Nat.zero_add]; exact h i t hi⟩⟩
theorem elt_at {W : World} {g : Nat} {t : TypeId} {pre cs post : List Value} (hr : W.row g = some (.cells (pre ++ (cs ++ post)).toArray t)) {n : Nat} (hn : pre.length = n) : eltAt W g n cs := by
  subst hn
  unfold eltAt
  rw [hr]
  refine ⟨?_, ?_⟩
  · show decide _ = true
    simp only [List.size_toArray, List.length_append]
    exact decide_eq_true (by omega)
  · show Value.agg _ = _
    congr 1
    apply Array.ext'
    rw [Array.toList_extract, List.extract_eq_take_drop]
    simp
theorem sum2_at {W : World} {m g : Nat} {t : TypeId} {p q : Ex} {cs cs1 : List Value} (hr : W.row g = some (.cells (cs ++ cs1).toArray t)) (hp : ExAt W m p cs) (hq : ExAt W m q cs1) (h5 : cs.length = 5) :
    ExAt W (m + 1) (sumT [p, q]) (exL 2 0 0 0 (some ⟨g, 0, none⟩) 2 2) := by
  refine sumT_at (by simp) (by simp) fun i x hx => ?_
  match i with
  | 0 =>
    obtain rfl : p = x := by simpa using hx
    exact ⟨cs, elt_at (pre := []) (post := cs1) (by simpa using hr) rfl, hp⟩
  | 1 =>
    obtain rfl : q = x := by simpa using hx
    exact ⟨cs1, elt_at (pre := cs) (post := []) (by simpa using hr) h5, hq⟩
  | i + 2 => simp at hx
theorem sum3_at {W : World} {m g : Nat} {t : TypeId} {p q r : Ex} {cs cs1 cs2 : List Value} (hr : W.row g = some (.cells (cs ++ (cs1 ++ cs2)).toArray t)) (hp : ExAt W m p cs) (hq : ExAt W m q cs1) (hr2 : ExAt W m r cs2) (h5 : cs.length = 5) (h5' : cs1.length = 5) :
    ExAt W (m + 1) (sumT [p, q, r]) (exL 2 0 0 0 (some ⟨g, 0, none⟩) 3 3) := by
  refine sumT_at (by simp) (by simp) fun i x hx => ?_
  match i with
  | 0 =>
    obtain rfl : p = x := by simpa using hx
    exact ⟨cs, elt_at (pre := []) (post := cs1 ++ cs2) (by simpa using hr) rfl, hp⟩
  | 1 =>
    obtain rfl : q = x := by simpa using hx
    exact ⟨cs1, elt_at (pre := cs) (post := cs2) hr h5, hq⟩
  | 2 =>
    obtain rfl : r = x := by simpa using hx
    exact ⟨cs2, elt_at (pre := cs ++ cs1) (post := []) (by simpa using hr) (by simp [h5, h5']), hr2⟩
  | i + 3 => simp at hx
theorem overS {us : List (Int × Int)} (h7 : us.length = 7) (hm : mayUF (.mk us [])) (ho : us.any (fun p => p.2 == 0) = false) {i : Nat} (hi : i < 7) : sureP (uGet us i) = true := by
  have h1 := hm i
  have e : Fm.u (.mk us []) i = uGet us i := rfl
  rw [e] at h1
  rcases sure_or_none h1 with h | h
  · exact h
  · have := List.any_eq_false.1 ho (uGet us i) (by rw [uGet_eq (by omega)]; exact List.getElem_mem _)
    rw [h] at this; exact absurd rfl this
/-- however it is bracketed -/
theorem brackets {f g h : Fm} (hp : (addF [f, g, h]).ps = []) (h1 : (addF [f, g, h]).us.any (fun p => p.2 == 0) = false) (h2 : (addF [f, addF [g, h]]).us.any (fun p => p.2 == 0) = false)
    (h3 : (addF [addF [h, f], g]).us.any (fun p => p.2 == 0) = false) : addF [f, addF [g, h]] = addF [f, g, h] ∧ addF [addF [h, f], g] = addF [f, g, h] := by
  have hps : f.ps = [] ∧ g.ps = [] ∧ h.ps = [] := by
    have e : (addF [f, g, h]).ps = f.ps ++ (g.ps ++ h.ps) := by simp [addF, Fm.ps]
    rw [e] at hp
    simpa using hp
  obtain ⟨p1, p2, p3⟩ := hps
  have may : ∀ l, mayUF (.mk (addF l).us []) := fun l i => addF_may l i
  have s1 := fun i (hi : i < 7) => overS (addF_len _) (may _) h1 hi
  have s2 := fun i (hi : i < 7) => overS (addF_len _) (may _) h2 hi
  have s3 := fun i (hi : i < 7) => overS (addF_len _) (may _) h3 hi
  have inner : ∀ (l : List Fm) i, i < 7 → (addF l).u i = foldQ (0, 1) addQ (l.map (·.u i)) := fun l i hi => addF_u l hi
  have e1 : (addF [f, addF [g, h]]).us = (addF [f, g, h]).us := by
    apply List.ext_getElem (by rw [addF_len, addF_len])
    intro i i1 i2
    have hi : i < 7 := by rw [addF_len] at i1; exact i1
    rw [← uGet_eq i1, ← uGet_eq i2]
    have a1 := s1 i hi; have a2 := s2 i hi
    rw [addF_u _ hi] at a1 a2 ⊢
    rw [addF_u _ hi]
    simp only [List.map_cons, List.map_nil, inner _ i hi] at a1 a2 ⊢
    exact (foldAdd_assoc1 a1 a2).symm
  have e2 : (addF [addF [h, f], g]).us = (addF [f, g, h]).us := by
    apply List.ext_getElem (by rw [addF_len, addF_len])
    intro i i1 i2
    have hi : i < 7 := by rw [addF_len] at i1; exact i1
    rw [← uGet_eq i1, ← uGet_eq i2]
    have a1 := s1 i hi; have a3 := s3 i hi
    rw [addF_u _ hi] at a1 a3 ⊢
    rw [addF_u _ hi]
    simp only [List.map_cons, List.map_nil, inner _ i hi] at a1 a3 ⊢
    exact (foldAdd_assoc2 a1 a3).symm
  have q0 : (addF [f, g, h]).ps = [] := hp
  have q1 : (addF [f, addF [g, h]]).ps = [] := by simp [addF, Fm.ps] at *; simp [p1, p2, p3]
  have q2 : (addF [addF [h, f], g]).ps = [] := by simp [addF, Fm.ps] at *; simp [p1, p2, p3]
  have ext : ∀ a b : Fm, a.us = b.us → a.ps = b.ps → a = b := fun a b h1 h2 => by
    obtain ⟨x, y⟩ := a; obtain ⟨x', y'⟩ := b
    have h1' : x = x' := h1; have h2' : y = y' := h2
    rw [h1', h2']
  exact ⟨ext _ _ e1 (q1.trans q0.symm), ext _ _ e2 (q2.trans q0.symm)⟩
end Go

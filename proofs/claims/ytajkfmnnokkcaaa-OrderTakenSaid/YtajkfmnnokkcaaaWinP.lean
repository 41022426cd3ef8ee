/- PLAIN: who wins, of claims: of each name the strongest, by rising names; a map from names to the last place in order. No condition; no program. -/
import Derived.Test.YtajkfmnnokkcaaaCls
import Derived.Sort.KeysCollected
set_option linter.unusedSimpArgs false
set_option linter.unusedVariables false
namespace Go
open Go.Maps Go.WideShapes
/-- a claim's name -/
def Cl.n (x : Cl) : List UInt8 := x.p.data.toList
theorem str_lt_irr (a : List UInt8) : ¬ a < a := List.lt_irrefl a
theorem str_lt_of {a b : List UInt8} (h : a ≤ b) (hne : a ≠ b) : a < b := by
  rcases Classical.em (a < b) with h1 | h1
  · exact h1
  · exact (hne (List.le_antisymm h (List.not_lt.1 h1))).elim
theorem str_tri (a b : List UInt8) : a < b ∨ a = b ∨ b < a := by
  by_cases e : a = b
  · exact .inr (.inl e)
  · rcases List.le_total a b with h | h
    · exact .inl (str_lt_of h e)
    · exact .inr (.inr (str_lt_of h fun x => e x.symm))
theorem str_lt_asymm {a b : List UInt8} (h : a < b) (h' : b < a) : False := str_lt_irr a (List.lt_trans h h')
/-- the model's order of texts -/
theorem bytesLess_lt : ∀ (x y : List UInt8), Op.bytesLess x y = decide (x < y)
  | [], [] => by simp [Op.bytesLess]
  | _ :: _, [] => by simp [Op.bytesLess]
  | [], _ :: _ => by simp [Op.bytesLess]
  | a :: x, b :: y => by
    rw [Op.bytesLess, bytesLess_lt x y]
    simp only [List.cons_lt_cons_iff]
    by_cases h1 : a < b <;> by_cases h2 : a = b <;> by_cases h3 : x < y <;> simp [h1, h2, h3]
theorem bytesLess_n (x y : Cl) : Op.bytesLess x.p.toList y.p.toList = decide (x.n < y.n) := by
  rw [bytesLess_lt, ByteArray.toList_eq, ByteArray.toList_eq]; rfl
theorem name_eq (a b : ByteArray) : a.data.toList = b.data.toList ↔ a = b := by
  constructor
  · intro h
    cases a; cases b
    congr 1
    exact Array.toList_inj.1 h
  · intro h; rw [h]
/-- the claim at this place is the strongest of its name -/
def Best (l : List Cl) (k : Nat) : Prop := ∀ m : Nat, m < l.length → (atC l m).n = (atC l k).n → m ≠ k → ltC (atC l) m k
/-- those that win, by rising names -/
structure Wins (l : List Cl) (W : List Int) : Prop where
  val : ∀ v ∈ W, ∃ k : Nat, v = (k : Int) ∧ k < l.length ∧ Best l k
  up : (W.map fun v => (atC l v).n).Pairwise (· < ·)
  all : ∀ k : Nat, k < l.length → ∃ v ∈ W, (atC l v).n = (atC l k).n
theorem Best.one {l : List Cl} {k m : Nat} (hk : k < l.length) (hm : m < l.length) (h : Best l k) (h' : Best l m) (e : (atC l k).n = (atC l m).n) : k = m := by
  by_cases hne : k = m
  · exact hne
  · exact (ltC_irr _ _ (ltC_trans _ _ _ _ (h m hm e.symm (fun x => hne x.symm)) (h' k hk e hne))).elim
theorem Wins.names {l : List Cl} {W V : List Int} (h : Wins l W) (h' : Wins l V) : (W.map fun v => (atC l v).n) = V.map fun v => (atC l v).n := by
  have nd : ∀ {W : List Int}, Wins l W → (W.map fun v => (atC l v).n).Nodup := fun h => h.up.imp (fun hab e => by rw [e] at hab; exact str_lt_irr _ hab)
  refine List.Perm.eq_of_pairwise (le := (· < ·)) (fun a b _ _ h1 h2 => (str_lt_asymm h1 h2).elim) h.up h'.up ((List.perm_ext_iff_of_nodup (nd h) (nd h')).2 fun a => ?_)
  constructor
  · intro ha
    obtain ⟨v, hv, rfl⟩ := List.mem_map.1 ha
    obtain ⟨k, rfl, hk, _⟩ := h.val v hv
    obtain ⟨u, hu, e⟩ := h'.all k hk
    exact List.mem_map.2 ⟨u, hu, e⟩
  · intro ha
    obtain ⟨v, hv, rfl⟩ := List.mem_map.1 ha
    obtain ⟨k, rfl, hk, _⟩ := h'.val v hv
    obtain ⟨u, hu, e⟩ := h.all k hk
    exact List.mem_map.2 ⟨u, hu, e⟩
theorem Wins.uniq {l : List Cl} {W V : List Int} (h : Wins l W) (h' : Wins l V) : W = V := by
  have e := h.names h'
  have hl : W.length = V.length := by have := congrArg List.length e; simpa using this
  refine List.ext_getElem hl fun i h1 h2 => ?_
  have e1 : (atC l W[i]).n = (atC l V[i]).n := by
    have := congrArg (fun x => x[i]?) e
    simpa [h1, h2] using this
  obtain ⟨k, ek, hk, bk⟩ := h.val _ (List.getElem_mem h1)
  obtain ⟨m, em, hm, bm⟩ := h'.val _ (List.getElem_mem h2)
  rw [ek, em] at e1 ⊢
  rw [bk.one hk hm bm e1]
/-- of the first i places in order the last one of a name -/
def lastF (l : List Cl) (f : Nat → Int) : Nat → List UInt8 → Option Int
  | 0, _ => none
  | i + 1, s => if s = (atC l (f i)).n then some (f i) else lastF l f i s
theorem lastF_none {l : List Cl} {f : Nat → Int} {s : List UInt8} : ∀ {i : Nat}, lastF l f i s = none → ∀ j, j < i → (atC l (f j)).n ≠ s
  | 0, _, j, hj => by omega
  | i + 1, h, j, hj => by
    unfold lastF at h
    split at h
    · cases h
    · rename_i hne
      by_cases e : j = i
      · rw [e]; exact fun x => hne x.symm
      · exact lastF_none h j (by omega)
theorem lastF_some {l : List Cl} {f : Nat → Int} {s : List UInt8} {v : Int} : ∀ {i : Nat}, lastF l f i s = some v → ∃ j, j < i ∧ f j = v ∧ (atC l v).n = s ∧ ∀ m, j < m → m < i → (atC l (f m)).n ≠ s
  | 0, h => by cases h
  | i + 1, h => by
    unfold lastF at h
    split at h
    · rename_i e
      cases h
      exact ⟨i, by omega, rfl, e.symm, fun m h1 h2 => by omega⟩
    · rename_i hne
      obtain ⟨j, h1, h2, h3, h4⟩ := lastF_some h
      refine ⟨j, by omega, h2, h3, fun m m1 m2 => ?_⟩
      by_cases e : m = i
      · rw [e]; exact fun x => hne x.symm
      · exact h4 m m1 (by omega)
theorem lastF_best {l : List Cl} {f : Nat → Int} (hR : Run (ltC (atC l)) f 0 l.length) {s : List UInt8} {v : Int} (h : lastF l f l.length s = some v) : ∃ k : Nat, v = (k : Int) ∧ k < l.length ∧ (atC l v).n = s ∧ Best l k := by
  obtain ⟨j, j1, j2, j3, j4⟩ := lastF_some h
  obtain ⟨k, _, k2, ek⟩ := hR.2.1 j (Nat.zero_le _) j1
  have ev : v = (k : Int) := j2.symm.trans ek
  subst ev
  refine ⟨k, rfl, k2, j3, fun m hm e hne => ?_⟩
  obtain ⟨q, _, q2, eq⟩ := hR.2.2 m (Nat.zero_le _) hm
  rcases Nat.lt_trichotomy q j with h1 | h1 | h1
  · have := hR.1 q j (Nat.zero_le _) h1 j1
    rw [eq, j2] at this; exact this
  · rw [h1, ek] at eq; exact (hne (by omega)).elim
  · exact (j4 q h1 q2 (by rw [eq, e, j3])).elim
theorem lastF_has {l : List Cl} {f : Nat → Int} (hR : Run (ltC (atC l)) f 0 l.length) {k : Nat} (hk : k < l.length) : (lastF l f l.length (atC l k).n).isSome = true := by
  cases h : lastF l f l.length (atC l k).n with
  | some v => rfl
  | none =>
    obtain ⟨q, _, q2, eq⟩ := hR.2.2 k (Nat.zero_le _) hk
    exact (lastF_none h q q2 (by rw [eq])).elim
/-- a list of names, rising, that are just those that stand: of each the last one -/
theorem wins_of {l : List Cl} {f : Nat → Int} (hR : Run (ltC (atC l)) f 0 l.length) {ns : List (List UInt8)} (up : ns.Pairwise (· < ·)) (hm : ∀ s, s ∈ ns ↔ (lastF l f l.length s).isSome = true) {W : List Int}
    (hl : W.length = ns.length) (hW : ∀ (i : Nat) s v, ns[i]? = some s → W[i]? = some v → lastF l f l.length s = some v) : Wins l W := by
  have hname : (W.map fun v => (atC l v).n) = ns := by
    refine List.ext_getElem (by simpa using hl) fun i h1 h2 => ?_
    have h1' : i < W.length := by simpa using h1
    obtain ⟨k, _, _, e, _⟩ := lastF_best hR (hW i ns[i] W[i] (List.getElem?_eq_getElem h2) (List.getElem?_eq_getElem h1'))
    simpa using e
  refine ⟨fun v hv => ?_, by rw [hname]; exact up, fun k hk => ?_⟩
  · obtain ⟨i, hi, rfl⟩ := List.mem_iff_getElem.1 hv
    obtain ⟨k, e, hk, _, b⟩ := lastF_best hR (hW i (ns[i]'(by omega)) W[i] (List.getElem?_eq_getElem (by omega)) (List.getElem?_eq_getElem hi))
    exact ⟨k, e, hk, b⟩
  · have := (hm (atC l k).n).2 (lastF_has hR hk)
    rw [← hname] at this
    obtain ⟨v, hv, e⟩ := List.mem_map.1 this
    exact ⟨v, hv, e⟩
/-- a map that was read: what it holds, name by name -/
def MapIs {H : Type} (D : DataW H) (m : List UInt8 → Option Int) : Prop := IsMap D ∧ ∀ s, has D (.string s) = (m s).isSome ∧ ∀ v z, m s = some v → D.atKey (.string s) z = .lit (.int .i64 v)
theorem MapIs.nil {H : Type} : MapIs (.map [] : DataW H) fun _ => none := ⟨⟨_, rfl⟩, fun _ => ⟨rfl, fun _ _ h => by cases h⟩⟩
theorem isKey_str (s : List UInt8) : WideAt.IsKeyLit (.string s) := by first | exact trivial | exact .inl ⟨_, rfl⟩ | simp [WideAt.IsKeyLit]
theorem MapIs.put {H : Type} {D : DataW H} {m : List UInt8 → Option Int} (h : MapIs D m) (s : List UInt8) (v : Int) : MapIs (D.put (.string s) (.lit (.int .i64 v))) fun t => if t = s then some v else m t := by
  refine ⟨?_, fun t => ?_⟩
  · obtain ⟨⟨es, rfl⟩, _⟩ := h; exact ⟨_, rfl⟩
  · by_cases e : t = s
    · subst e
      exact ⟨by rw [has_put_same h.1 (isKey_str _)]; simp, fun u z hu => by simp only [if_true] at hu; cases hu; exact atKey_put_same h.1 (isKey_str _) _ _⟩
    · have ne : (Lit.string t) ≠ .string s := fun x => e (by injection x)
      exact ⟨by rw [has_put_other ne, (h.2 t).1]; simp only [if_neg e], fun u z hu => by simp only [if_neg e] at hu; rw [atKey_put_other ne]; exact (h.2 t).2 u z hu⟩
theorem mem_strKeys {H : Type} {P : Program} {k : TypeId} {R : Value → Option (DataW H × List MemPlace)} {w : World} {b n : Nat} {D : DataW H} (h : w.ownsMap P k R b n D) (K : Keyed P k) (hk : P.underlying k = some .string) :
    (strKeys D).Nodup ∧ ∀ s, s ∈ strKeys D ↔ has D (.string s) = true := by
  obtain ⟨es, rfl, ap, _⟩ := h.entries K
  obtain ⟨es', e, hkeys⟩ := h.keysOf
  cases e
  have hs : ∀ p ∈ es, ∃ x, p.1 = .string x := fun p hp => by
    obtain ⟨key, hkey⟩ := hkeys p hp
    obtain ⟨x, _, e, _⟩ := keyOf_str hk hkey
    exact ⟨x, e⟩
  refine ⟨?_, fun s => ?_⟩
  · show (es.map fun p => strOf p.1).Nodup
    refine List.pairwise_map.2 (ap.imp_of_mem fun {p q} hp hq hne e => hne ?_)
    obtain ⟨x, hx⟩ := hs p hp
    obtain ⟨y, hy⟩ := hs q hq
    rw [hx, hy] at e ⊢
    exact congrArg Lit.string e
  · rw [has_eq, List.any_eq_true]
    show s ∈ es.map (fun p => strOf p.1) ↔ _
    rw [List.mem_map]
    constructor
    · rintro ⟨p, hp, rfl⟩
      obtain ⟨x, hx⟩ := hs p hp
      exact ⟨p, hp, by rw [hx]; exact WideAt.sameKey_self (isKey_str x)⟩
    · rintro ⟨p, hp, h2⟩
      exact ⟨p, hp, by rw [WideAt.sameKey_eq h2]; rfl⟩
theorem sorted_up {ss : List (List UInt8)} (h : ss.Nodup) : (ss.mergeSort leB).Pairwise (· < ·) ∧ ∀ s, s ∈ ss.mergeSort leB ↔ s ∈ ss := by
  have tr : ∀ a b c : List UInt8, leB a b = true → leB b c = true → leB a c = true := fun a b c h1 h2 => by simp only [leB, decide_eq_true_eq] at *; exact List.le_trans h1 h2
  have tt : ∀ a b : List UInt8, (leB a b || leB b a) = true := fun a b => by simp only [leB, Bool.or_eq_true, decide_eq_true_eq]; exact List.le_total a b
  have hp := List.mergeSort_perm ss leB
  refine ⟨?_, fun s => hp.mem_iff⟩
  have h1 := List.pairwise_mergeSort tr tt ss
  have h2 : (ss.mergeSort leB).Nodup := hp.nodup_iff.2 h
  exact (h1.and h2).imp fun {a b} hab => str_lt_of (by simpa [leB] using hab.1) hab.2
end Go

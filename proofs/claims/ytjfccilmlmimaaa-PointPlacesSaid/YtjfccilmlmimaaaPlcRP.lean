/- PLAIN: places put among rising ones, each once; slices of a slice. No condition. -/
import Derived.Test.YtjfccilmlmimaaaPlcP
import Derived.Test.YtjfccilmlmimaaaAppN
set_option linter.unusedSimpArgs false
set_option linter.unusedVariables false
namespace Go
open Go.RowKit
/-- a place put among rising ones, once -/
def insR : List (Int × Int) → Int × Int → List (Int × Int)
  | [], r => [r]
  | y :: t, r => if cmpI y.1 y.2 r.1 r.2 < 0 then y :: insR t r else if y = r then y :: t else r :: y :: t
theorem insR_at : ∀ (l : List (Int × Int)) (x : Int × Int) (k : Nat), k ≤ l.length → (∀ (j : Nat) v, j < k → l[j]? = some v → cmpI v.1 v.2 x.1 x.2 < 0) → (∀ v, l[k]? = some v → ¬ cmpI v.1 v.2 x.1 x.2 < 0) → insR l x = if l[k]? = some x then l else l.take k ++ ([x] ++ l.drop k)
  | [], x, k, hk, _, _ => by
    obtain rfl : k = 0 := by simpa using hk
    simp [insR]
  | y :: t, x, 0, _, _, h2 => by
    have := h2 y rfl
    unfold insR
    rw [if_neg this]
    by_cases e : y = x
    · simp [e]
    · simp [e]
  | y :: t, x, k + 1, hk, h1, h2 => by
    have h0 := h1 0 y (by omega) rfl
    unfold insR
    rw [if_pos h0, insR_at t x k (by simpa using hk) (fun j v hj hv => h1 (j + 1) v (by omega) (by simpa using hv)) (fun v hv => h2 v (by simpa using hv))]
    simp only [List.getElem?_cons_succ, List.take_succ_cons, List.drop_succ_cons]
    split <;> simp
theorem insR_mem : ∀ (l : List (Int × Int)) (x z : Int × Int), z ∈ insR l x ↔ z = x ∨ z ∈ l
  | [], x, z => by simp [insR]
  | y :: t, x, z => by
    unfold insR
    split
    · rw [List.mem_cons, insR_mem t x z, List.mem_cons]
      constructor
      · rintro (h | h | h)
        · exact .inr (.inl h)
        · exact .inl h
        · exact .inr (.inr h)
      · rintro (h | h | h)
        · exact .inr (.inl h)
        · exact .inl h
        · exact .inr (.inr h)
    · split
      · next e => subst e; rw [List.mem_cons]; simp
      · simp
theorem insR_len : ∀ (l : List (Int × Int)) (x : Int × Int), (insR l x).length ≤ l.length + 1
  | [], x => by simp [insR]
  | y :: t, x => by
    unfold insR
    split
    · have := insR_len t x; simp; omega
    · split <;> simp
theorem insR_up : ∀ (l : List (Int × Int)) (x : Int × Int), UpR l → (∀ y ∈ l, sureB y.1 y.2 = true) → sureB x.1 x.2 = true → UpR (insR l x)
  | [], x, _, _, _ => by simp [insR, UpR]
  | y :: t, x, h, hs, hx => by
    obtain ⟨h1, h2⟩ := List.pairwise_cons.1 h
    have sy := hs y (by simp)
    unfold insR
    split
    · next hlt =>
      refine List.pairwise_cons.2 ⟨fun z hz => ?_, insR_up t x h2 (fun z hz => hs z (by simp [hz])) hx⟩
      rcases (insR_mem t x z).1 hz with e | hz
      · subst e; exact hlt
      · exact h1 z hz
    · next hnl =>
      split
      · exact h
      · next hne =>
        have hxy : cmpI x.1 x.2 y.1 y.2 < 0 := by
          have hn0 : ¬ cmpI y.1 y.2 x.1 x.2 = 0 := fun e => by
            obtain ⟨e1, e2⟩ := cmp_same sy hx e
            exact hne (Prod.ext e1 e2)
          exact cmpI_swap hn0 hnl
        refine List.pairwise_cons.2 ⟨fun z hz => ?_, h⟩
        rcases List.mem_cons.1 hz with e | hz
        · subst e; exact hxy
        · have hyz := h1 z hz
          have sz := hs z (by simp [hz])
          exact lt_le_trans (sureB_yes hx).1 (sureB_yes sy).1 (sureB_yes sz).1 hxy (Int.le_of_lt hyz)
/-- the places of a name's lines, rising -/
def wantR (nm : ByteArray) (l : List Ln) : List (Int × Int) := l.foldl (fun o x => if x.n = nm ∧ sureB x.p x.q = true then insR o x.at2 else o) []
theorem wantR_succ {nm : ByteArray} {l : List Ln} {i : Nat} {x : Ln} (h : l[i]? = some x) : wantR nm (l.take (i + 1)) = if x.n = nm ∧ sureB x.p x.q = true then insR (wantR nm (l.take i)) x.at2 else wantR nm (l.take i) := by
  unfold wantR
  rw [List.take_add_one, h, List.foldl_append]
  rfl
theorem wantR_all (nm : ByteArray) : ∀ (l : List Ln), UpR (wantR nm l) ∧ (∀ y ∈ wantR nm l, sureB y.1 y.2 = true) ∧ ∀ z, z ∈ wantR nm l ↔ ∃ x ∈ l, x.n = nm ∧ sureB x.p x.q = true ∧ x.at2 = z := by
  have key : ∀ (l : List Ln) (o : List (Int × Int)), UpR o → (∀ y ∈ o, sureB y.1 y.2 = true) → let r := l.foldl (fun o x => if x.n = nm ∧ sureB x.p x.q = true then insR o x.at2 else o) o
      UpR r ∧ (∀ y ∈ r, sureB y.1 y.2 = true) ∧ ∀ z, z ∈ r ↔ z ∈ o ∨ ∃ x ∈ l, x.n = nm ∧ sureB x.p x.q = true ∧ x.at2 = z := by
    intro l
    induction l with
    | nil => intro o h1 h2; exact ⟨h1, h2, fun z => by simp⟩
    | cons a t ih =>
      intro o h1 h2
      rw [List.foldl_cons]
      by_cases hc : a.n = nm ∧ sureB a.p a.q = true
      · rw [if_pos hc]
        obtain ⟨q1, q2, q3⟩ := ih (insR o a.at2) (insR_up o a.at2 h1 h2 hc.2) (fun y hy => by
          rcases (insR_mem o a.at2 y).1 hy with e | hy
          · subst e; exact hc.2
          · exact h2 y hy)
        refine ⟨q1, q2, fun z => (q3 z).trans ?_⟩
        rw [insR_mem]
        constructor
        · rintro ((h | h) | ⟨x, h, h'⟩)
          · exact .inr ⟨a, by simp, hc.1, hc.2, h.symm⟩
          · exact .inl h
          · exact .inr ⟨x, by simp [h], h'⟩
        · rintro (h | ⟨x, h, h3, h4, h5⟩)
          · exact .inl (.inr h)
          · rcases List.mem_cons.1 h with e | h
            · subst e; exact .inl (.inl h5.symm)
            · exact .inr ⟨x, h, h3, h4, h5⟩
      · rw [if_neg hc]
        obtain ⟨q1, q2, q3⟩ := ih o h1 h2
        refine ⟨q1, q2, fun z => (q3 z).trans ?_⟩
        constructor
        · rintro (h | ⟨x, h, h'⟩)
          · exact .inl h
          · exact .inr ⟨x, by simp [h], h'⟩
        · rintro (h | ⟨x, h, h3, h4, h5⟩)
          · exact .inl h
          · rcases List.mem_cons.1 h with e | h
            · subst e; exact (hc ⟨h3, h4⟩).elim
            · exact .inr ⟨x, h, h3, h4, h5⟩
  intro l
  obtain ⟨q1, q2, q3⟩ := key l [] (by simp [UpR]) (by simp)
  exact ⟨q1, q2, fun z => (q3 z).trans (by simp)⟩
theorem wantR_len (nm : ByteArray) (l : List Ln) : ∀ i, (wantR nm (l.take i)).length ≤ i
  | 0 => by simp [wantR]
  | i + 1 => by
    have ih := wantR_len nm l i
    cases h : l[i]? with
    | none =>
      rw [List.take_of_length_le (by have := List.getElem?_eq_none_iff.1 h; omega : l.length ≤ i + 1)]
      rw [List.take_of_length_le (by have := List.getElem?_eq_none_iff.1 h; omega : l.length ≤ i)] at ih
      omega
    | some x =>
      rw [wantR_succ h]
      split
      · have := insR_len (wantR nm (l.take i)) x.at2; omega
      · omega
/-- the places of lines in order are those wanted -/
theorem plcs_want {nm : ByteArray} {l p : List Ln} (hS : Srt (ofN l l.length nm.data.toList) p) : plcs p = wantR nm l := by
  obtain ⟨h1, h2, h3⟩ := wantR_all nm l
  refine upR_uniq (plcs_up (ofN_sure hS) fun i j x y hij hx hy => hS.le hij hx hy) h1 fun z => ?_
  rw [plcs_mem, h3]
  constructor
  · rintro ⟨x, hx, e⟩
    obtain ⟨h4, h5⟩ := ofN_mem.1 ((Srt.mem hS x).1 hx)
    unfold okN at h5
    rw [Bool.and_eq_true] at h5
    exact ⟨x, h4, (nameEq _ _).1 (by simpa using h5.2), h5.1, e⟩
  · rintro ⟨x, hx, hn, hs, e⟩
    refine ⟨x, (Srt.mem hS x).2 (ofN_mem.2 ⟨hx, ?_⟩), e⟩
    unfold okN
    rw [hs, hn]; simp
theorem slN_pre {α : Type} {w : World} {S : Nat → Prop} {m : Nat} {R : α → List Value → Prop} {a : Option Addr} {n c k : Nat} {l : List α} (h : SlAt w S m R (.slice a n c) l) (hk : k ≤ l.length) : SlAt w S m R (.slice a k k) (l.take k) := by
  obtain ⟨a', cap', e, h2, h3, h4⟩ := h
  injection e with e1 e2 e3
  subst e1; subst e3
  have hl : (l.take k).length = k := by simp [hk]
  refine ⟨a, k, by rw [hl], by omega, by omega, ?_⟩
  rcases h4 with rfl | ⟨g, off, rfl, hS, h7⟩
  · exact .inl (by simp)
  · exact .inr ⟨g, off, rfl, hS, fun i x hx => h7 i x (by
      have := (List.getElem?_eq_some_iff.1 hx).1
      rw [List.getElem?_take_of_lt (by omega)] at hx; exact hx)⟩
theorem slat_one {α : Type} {w : World} {g n : Nat} {e : TypeId} {fr : Nat × Nat} {R : α → List Value → Prop} {x : α} {cs : List Value} (hn : cs.length = n) (hR : R x cs) (h : w.row g = some (.cells cs.toArray e fr)) (hc : cs ≠ []) : SlAt w (fun _ => True) n R (.slice (some ⟨g, 0, none⟩) 1 1) [x] := by
  refine ⟨_, 1, rfl, by simp, by omega, .inr ⟨g, 0, rfl, trivial, fun i y hy => ?_⟩⟩
  have hil := (List.getElem?_eq_some_iff.1 hy).1
  obtain rfl : i = 0 := by simpa using hil
  cases hy
  refine ⟨cs, hn, eltAt_of_range hc fun j u hj => ?_, hR⟩
  rw [World.cell?_row, h]
  show cs.toArray[_]? = some u
  simpa using hj
end Go

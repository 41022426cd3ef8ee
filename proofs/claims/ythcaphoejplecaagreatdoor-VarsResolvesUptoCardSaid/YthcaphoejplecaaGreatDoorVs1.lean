/- Texts of the walk, one after the other; what each proves stands ahead of it. -/
import Derived.ArgAppend
import Derived.Test.YthcaphoejplecaaGreatDoorVr2
set_option linter.unusedSimpArgs false
set_option linter.unusedVariables false
/- PLAIN: the reference's way to what custom properties come to: lists by rising names; who leans on whom by places; rounds. No condition; no program. -/
namespace Go
open Go.RowKit
theorem riseC_app {A B : List Cu} : RiseC (A ++ B) ↔ RiseC A ∧ RiseC B ∧ ∀ a ∈ A, ∀ b ∈ B, a.n.data.toList < b.n.data.toList := List.pairwise_append
theorem ba_inj {x y : ByteArray} (h : x.data.toList = y.data.toList) : x = y := by
  obtain ⟨x⟩ := x; obtain ⟨y⟩ := y
  have : x = y := Array.toList_inj.1 h
  rw [this]
/-- one of a name is put in its place -/
theorem Tells.put {k : Known} {A B : List Cu} {c d : Cu} (h : Tells k (A ++ d :: B)) (hd : d.n = c.n) : Tells (setK k c.n (some c.ts)) (A ++ c :: B) := by
  obtain ⟨h1, h2, h3⟩ := riseC_app.1 h.up
  obtain ⟨h4, h5⟩ := List.pairwise_cons.1 h2
  refine ⟨riseC_app.2 ⟨h1, List.pairwise_cons.2 ⟨fun b hb => hd ▸ h4 b hb, h5⟩, fun a ha b hb => ?_⟩, fun x => ?_⟩
  · rcases List.mem_cons.1 hb with rfl | hb
    · have := h3 a ha d (by simp); rw [hd] at this; exact this
    · exact h3 a ha b (by simp [hb])
  · unfold setK
    by_cases e : x.n = c.n
    · rw [if_pos e]
      constructor
      · intro hx
        rcases List.mem_append.1 hx with hx | hx
        · have := h3 x hx d (by simp)
          rw [hd, e] at this
          exact (u8_irrefl _ this).elim
        · rcases List.mem_cons.1 hx with rfl | hx
          · rfl
          · have := h4 x hx
            rw [hd, e] at this
            exact (u8_irrefl _ this).elim
      · intro hx
        injection hx with hx
        obtain ⟨xn, xt⟩ := x
        obtain ⟨cn, ct⟩ := c
        simp only at e hx
        subst e; subst hx; simp
    · rw [if_neg e, ← h.mem x]
      have hxc : x ≠ c := fun e2 => e (by rw [e2])
      have hxd : x ≠ d := fun e2 => e (by rw [e2]; exact hd)
      simp [hxc, hxd]
/-- one of a new name is put in its place -/
theorem Tells.ins {k : Known} {A B : List Cu} {c : Cu} (h : Tells k (A ++ B)) (hA : ∀ a ∈ A, a.n.data.toList < c.n.data.toList) (hB : ∀ b ∈ B, c.n.data.toList < b.n.data.toList) : Tells (setK k c.n (some c.ts)) (A ++ c :: B) := by
  obtain ⟨h1, h2, h3⟩ := riseC_app.1 h.up
  refine ⟨riseC_app.2 ⟨h1, List.pairwise_cons.2 ⟨hB, h2⟩, fun a ha b hb => ?_⟩, fun x => ?_⟩
  · rcases List.mem_cons.1 hb with rfl | hb
    · exact hA a ha
    · exact h3 a ha b hb
  · unfold setK
    by_cases e : x.n = c.n
    · rw [if_pos e]
      constructor
      · intro hx
        rcases List.mem_append.1 hx with hx | hx
        · have := hA x hx
          rw [e] at this
          exact (u8_irrefl _ this).elim
        · rcases List.mem_cons.1 hx with rfl | hx
          · rfl
          · have := hB x hx
            rw [e] at this
            exact (u8_irrefl _ this).elim
      · intro hx
        injection hx with hx
        obtain ⟨xn, xt⟩ := x
        obtain ⟨cn, ct⟩ := c
        simp only at e hx
        subst e; subst hx; simp
    · rw [if_neg e, ← h.mem x]
      have hxc : x ≠ c := fun e2 => e (by rw [e2])
      simp [hxc]
theorem Tells.nil : Tells (fun _ => none) [] := ⟨List.Pairwise.nil, fun c => by simp⟩
theorem byStep_set (k : Known) (c : Cu) : byStep k c = if customB c.n = true then setK k c.n (some c.ts) else k := rfl
/-- steps over a relation given by lists -/
inductive Rch {α : Type} (L : α → List α) : α → α → Prop
  | one {a b : α} (h : b ∈ L a) : Rch L a b
  | more {a b c : α} (h : Rch L a b) (h' : c ∈ L b) : Rch L a c
/-- the search for a ring, whatever is looked at -/
structure GInv {α : Type} (L : α → List α) (n : α) (met : α → Bool) (o : List α) : Prop where
  i1 : ∀ x ∈ o, Rch L n x
  i2 : ∀ x, met x = true → x ≠ n
  i3 : ∀ x, met x = true → ∀ u ∈ L x, met u = true ∨ u ∈ o
  i4 : ∀ u ∈ L n, met u = true ∨ u ∈ o
theorem GInv.start {α : Type} (L : α → List α) (n : α) : GInv L n (fun _ => false) (L n) :=
  ⟨fun _ hx => .one hx, fun x h => (by cases h), fun x h => (by cases h), fun _ hu => .inr hu⟩
theorem GInv.found {α : Type} {L : α → List α} {n : α} {met : α → Bool} {o : List α} (h : GInv L n met (o ++ [n])) : Rch L n n := h.i1 n (by simp)
theorem GInv.old {α : Type} {L : α → List α} {n x : α} {met : α → Bool} {o : List α} (h : GInv L n met (o ++ [x])) (hx : met x = true) : GInv L n met o :=
  ⟨fun y hy => h.i1 y (by simp [hy]), h.i2, fun y hy u hu => by
    rcases h.i3 y hy u hu with h1 | h1
    · exact .inl h1
    · rcases List.mem_append.1 h1 with h2 | h2
      · exact .inr h2
      · rw [List.mem_singleton.1 h2]; exact .inl hx, fun u hu => by
    rcases h.i4 u hu with h1 | h1
    · exact .inl h1
    · rcases List.mem_append.1 h1 with h2 | h2
      · exact .inr h2
      · rw [List.mem_singleton.1 h2]; exact .inl hx⟩
theorem GInv.new {α : Type} {L : α → List α} {n x : α} {met met' : α → Bool} {o : List α} (h : GInv L n met (o ++ [x])) (hx : x ≠ n) (hm : ∀ y, met' y = true ↔ y = x ∨ met y = true) : GInv L n met' (o ++ L x) := by
  have hr := h.i1 x (by simp)
  have old : ∀ u, met u = true ∨ u ∈ o ++ [x] → met' u = true ∨ u ∈ o ++ L x := fun u hu => by
    rcases hu with h1 | h1
    · exact .inl ((hm u).2 (.inr h1))
    · rcases List.mem_append.1 h1 with h2 | h2
      · exact .inr (by simp [h2])
      · exact .inl ((hm u).2 (.inl (List.mem_singleton.1 h2)))
  refine ⟨fun y hy => ?_, fun y hy => ?_, fun y hy u hu => ?_, fun u hu => old u (h.i4 u hu)⟩
  · rcases List.mem_append.1 hy with h1 | h1
    · exact h.i1 y (by simp [h1])
    · exact .more hr h1
  · rcases (hm y).1 hy with rfl | h1
    · exact hx
    · exact h.i2 y h1
  · rcases (hm y).1 hy with rfl | h1
    · exact .inr (by simp [hu])
    · exact old u (h.i3 y h1 u hu)
theorem GInv.none {α : Type} {L : α → List α} {n : α} {met : α → Bool} (h : GInv L n met []) : ¬ Rch L n n := by
  have key : ∀ x, Rch L n x → met x = true := fun x hx => by
    induction hx with
    | one h1 =>
      rcases h.i4 _ h1 with h2 | h2
      · exact h2
      · cases h2
    | more _ h1 ih =>
      rcases h.i3 _ ih _ h1 with h2 | h2
      · exact h2
      · cases h2
  exact fun hr => h.i2 n (key n hr) rfl
/-- the place of a name -/
def placeN (o : List Cu) (n : ByteArray) : Option Nat := o.findIdx? fun c => decide (c.n = n)
theorem placeN_some {o : List Cu} {n : ByteArray} {i : Nat} (h : placeN o n = some i) : ∃ c, o[i]? = some c ∧ c.n = n := by
  unfold placeN at h
  obtain ⟨h1, h2, _⟩ := List.findIdx?_eq_some_iff_getElem.1 h
  exact ⟨o[i], List.getElem?_eq_getElem h1, by simpa using h2⟩
theorem placeN_none {o : List Cu} {n : ByteArray} (h : placeN o n = none) : ∀ c ∈ o, c.n ≠ n := by
  unfold placeN at h
  rw [List.findIdx?_eq_none_iff] at h
  intro c hc
  simpa using h c hc
theorem rise_inj {o : List Cu} (h : RiseC o) {i j : Nat} {c d : Cu} (hi : o[i]? = some c) (hj : o[j]? = some d) (e : c.n = d.n) : i = j := by
  have h1 := (List.getElem?_eq_some_iff.1 hi)
  have h2 := (List.getElem?_eq_some_iff.1 hj)
  obtain ⟨a1, a2⟩ := h1
  obtain ⟨b1, b2⟩ := h2
  rcases Nat.lt_trichotomy i j with h3 | h3 | h3
  · have := List.pairwise_iff_getElem.1 h i j a1 b1 h3
    rw [a2, b2, e] at this
    exact (u8_irrefl _ this).elim
  · exact h3
  · have := List.pairwise_iff_getElem.1 h j i b1 a1 h3
    rw [a2, b2, e] at this
    exact (u8_irrefl _ this).elim
/-- the places of those that one leans on -/
def leansI (o : List Cu) (i : Nat) : List Nat := match o[i]? with | none => [] | some c => (usesT c.ts).filterMap (placeN o)
theorem mem_leansI {m : Known} {o : List Cu} (h : Tells m o) {i j : Nat} {c d : Cu} (hi : o[i]? = some c) (hj : o[j]? = some d) : j ∈ leansI o i ↔ Lean1 m c.n d.n := by
  unfold leansI
  rw [hi]
  simp only
  rw [List.mem_filterMap]
  have hc := (h.mem c).1 (List.mem_of_getElem? hi)
  have hd := (h.mem d).1 (List.mem_of_getElem? hj)
  constructor
  · rintro ⟨s, hs, hp⟩
    obtain ⟨e, he, rfl⟩ := placeN_some hp
    rw [hj] at he; injection he with he
    rw [he]
    exact ⟨c.ts, hc, hs, by rw [← he, hd]; simp⟩
  · rintro ⟨ts, h1, h2, h3⟩
    rw [hc] at h1; injection h1 with h1
    subst h1
    refine ⟨d.n, h2, ?_⟩
    cases hp : placeN o d.n with
    | none => exact absurd rfl (placeN_none hp d (List.mem_of_getElem? hj))
    | some k =>
      obtain ⟨e, he, hen⟩ := placeN_some hp
      rw [rise_inj h.up he hj hen]
theorem leansI_lt {o : List Cu} {i j : Nat} (h : j ∈ leansI o i) : j < o.length := by
  unfold leansI at h
  split at h
  · cases h
  · obtain ⟨s, _, hp⟩ := List.mem_filterMap.1 h
    obtain ⟨e, he, _⟩ := placeN_some hp
    exact (List.getElem?_eq_some_iff.1 he).1
theorem rch_leans {m : Known} {o : List Cu} (h : Tells m o) {i : Nat} {c : Cu} (hi : o[i]? = some c) {j : Nat} (hr : Rch (leansI o) i j) : ∃ d, o[j]? = some d ∧ Leans m c.n d.n := by
  induction hr with
  | one h1 =>
    have hl := leansI_lt h1
    exact ⟨_, List.getElem?_eq_getElem hl, .one ((mem_leansI h hi (List.getElem?_eq_getElem hl)).1 h1)⟩
  | more _ h1 ih =>
    obtain ⟨d, hd, h2⟩ := ih
    have hl := leansI_lt h1
    exact ⟨_, List.getElem?_eq_getElem hl, .more h2 ((mem_leansI h hd (List.getElem?_eq_getElem hl)).1 h1)⟩
theorem told {m : Known} {o : List Cu} (h : Tells m o) {n : ByteArray} (hn : m n ≠ none) : ∃ (i : Nat) (c : Cu), o[i]? = some c ∧ c.n = n := by
  cases hm : m n with
  | none => exact absurd hm hn
  | some ts =>
    obtain ⟨i, hi, e⟩ := List.mem_iff_getElem.1 ((h.mem ⟨n, ts⟩).2 hm)
    exact ⟨i, _, List.getElem?_eq_getElem hi, by rw [e]⟩
theorem leans_rch {m : Known} {o : List Cu} (h : Tells m o) {i : Nat} {c : Cu} (hi : o[i]? = some c) {n : ByteArray} (hr : Leans m c.n n) : ∃ (j : Nat) (d : Cu), o[j]? = some d ∧ d.n = n ∧ Rch (leansI o) i j := by
  generalize hcn : c.n = a at hr
  induction hr with
  | one h1 =>
    obtain ⟨j, d, hj, rfl⟩ := told h (Leans.one h1).dst
    exact ⟨j, d, hj, rfl, .one ((mem_leansI h hi hj).2 (hcn ▸ h1))⟩
  | more h2 h1 ih =>
    obtain ⟨j, d, hj, rfl, h3⟩ := ih
    obtain ⟨j2, d2, hj2, rfl⟩ := told h (Leans.more h2 h1).dst
    exact ⟨j2, d2, hj2, rfl, .more h3 ((mem_leansI h hj hj2).2 h1)⟩
theorem ring_iff {m : Known} {o : List Cu} (h : Tells m o) {i : Nat} {c : Cu} (hi : o[i]? = some c) : Rch (leansI o) i i ↔ Leans m c.n c.n := by
  constructor
  · intro hr
    obtain ⟨d, hd, h1⟩ := rch_leans h hi hr
    rw [hi] at hd; injection hd with hd
    rw [hd] at h1 ⊢; exact h1
  · intro hr
    obtain ⟨j, d, hj, hn, h1⟩ := leans_rch h hi hr
    rw [rise_inj h.up hj hi hn] at h1
    exact h1
open Classical in
/-- of those that are not done, and lean not on themselves, there is one that leans on done ones alone -/
theorem next_ready {m : Known} {names : List ByteArray} (hn : ∀ n, m n ≠ none → n ∈ names) (done : ByteArray → Prop) {x : ByteArray} (hx : m x ≠ none ∧ ¬ Leans m x x ∧ ¬ done x) : ∃ y, (m y ≠ none ∧ ¬ Leans m y y ∧ ¬ done y) ∧ ∀ u, Lean1 m y u → Leans m u u ∨ done u := by
  have key : ∀ (N : Nat) (x : ByteArray), (names.filter fun y => decide (Leans m x y)).length ≤ N → (m x ≠ none ∧ ¬ Leans m x x ∧ ¬ done x) → ∃ y, (m y ≠ none ∧ ¬ Leans m y y ∧ ¬ done y) ∧ ∀ u, Lean1 m y u → Leans m u u ∨ done u := by
    intro N
    induction N using Nat.strongRecOn with
    | _ N ih =>
      intro x hN hx
      by_cases hall : ∀ u, Lean1 m x u → Leans m u u ∨ done u
      · exact ⟨x, hx, hall⟩
      · obtain ⟨u, hu⟩ := Classical.not_forall.1 hall
        obtain ⟨h1, h2⟩ := Classical.not_imp.1 hu
        have hru : ¬ Leans m u u := fun h => h2 (.inl h)
        have hdu : ¬ done u := fun h => h2 (.inr h)
        have hmu : m u ≠ none := (Leans.one h1).dst
        have hlt := cntLt (p := fun y => decide (Leans m u y)) (q := fun y => decide (Leans m x y)) names (fun y _ hy => decide_eq_true (Leans.trans (.one h1) (of_decide_eq_true hy))) u (hn u hmu) (decide_eq_false hru) (decide_eq_true (.one h1))
        exact ih _ (by omega) u (Nat.le_refl _) ⟨hmu, hru, hdu⟩
  exact key _ x (Nat.le_refl _) hx
theorem findCu_snoc (l : List Cu) (c : Cu) : findCu (l ++ [c]) = byStep (findCu l) c := by
  funext n
  rw [← by_find, List.foldl_append]
  show byStep (l.foldl byStep fun _ => none) c n = byStep (findCu l) c n
  have e : (l.foldl byStep fun _ => none) = findCu l := by funext x; exact by_find l x
  rw [e]
/-- what is found of a list that tells a map of customs -/
theorem Tells.find_eq {F : Known} {r : List Cu} (h : Tells F r) (hc : ∀ n, F n ≠ none → customB n = true) : findCu r = F := by
  funext n
  rw [h.find n]
  by_cases hb : customB n = true
  · rw [if_pos hb]
  · rw [if_neg hb]
    cases hF : F n with
    | none => rfl
    | some ts => exact absurd (hc n (by rw [hF]; simp)) hb
theorem Tells.filter {F : Known} {r : List Cu} (h : Tells F r) (p : ByteArray → Bool) : Tells (fun n => if p n = true then F n else none) (r.filter fun c => p c.n) := by
  refine ⟨h.up.filter _, fun c => ?_⟩
  rw [List.mem_filter, h.mem c]
  by_cases hp : p c.n = true
  · simp [hp]
  · simp [hp]
/-- one that is ready is done -/
theorem VInv.done {m ab : Known} {col : ByteArray → Int} {k : Known} (h : VInv m ab col k) {n : ByteArray} {ts : List Tk} (hn : m n = some ts) (hr : ¬ Leans m n n) (hc : col n = 0) (hl : ∀ u, Lean1 m n u → Leans m u u ∨ col u = 2) : VInv m ab (setC col n 2) (setK k n (okOf (putAll k ts))) := by
  have h1 := h.grey (n := n) (by rw [hn]; simp) hr hc
  have h2 := h1.black hn (by simp [setC]) (fun u hu => by
    rcases hl u hu with h3 | h3
    · exact .inl h3
    · right
      unfold setC
      rw [if_neg (fun e => hr (.one (by rw [e] at hu; exact hu)))]
      exact h3)
  have e : setC (setC col n 1) n 2 = setC col n 2 := by
    funext x; unfold setC; split <;> rfl
  rw [e] at h2
  exact h2
end Go

/- LAWS: append onto a slice that has no room makes a row of one's own; a struct stored in a row of one's own. No condition; laws over any program. -/
namespace Go
open Go.RowKit
theorem info_partsV {x : Option TypeInfo} {z : Value} {size bytes : Nat} (h : x.map (fun i => (i.zero, i.size, i.bytes)) = some (some z, size, bytes)) : ∃ i, x = some i ∧ i.zero = some z ∧ i.size = size ∧ i.bytes = bytes := by
  cases x with
  | none => cases h
  | some i =>
    simp only [Option.map_some, Option.some.injEq, Prod.mk.injEq] at h
    exact ⟨i, rfl, h.1, h.2.1, h.2.2⟩
theorem run_append_fullO {P : Program} (w : World) (t ty e : TypeId) {n by' : Nat} {z : Value} (ht : P.underlying t = some (.slice e)) (hi : (P.info? e).map (fun i => (i.zero, i.size, i.bytes)) = some (some z, n, by'))
    (hzs : z.cells.size = n) (hn : 0 < n) (hby : by' ≤ 1048576) {A : Option Addr} {B : Addr} {k m c : Nat} (xs ys : List Value) (hxs : xs.length = k * n) (hA : k = 0 ∨ ∃ ad, A = some ad ∧ ∀ j u, xs[j]? = some u → w.cell? (ad.add j) = some u)
    (hys : ys.length = m * n) (hB : ∀ j u, ys[j]? = some u → w.cell? (B.add j) = some u) (h1 : ∀ u ∈ ys, u.oneCell' = true) (hm : 0 < m) (hnm : k + m ≤ 67108864) :
    ∃ v' w', (Builtin.append_ #[t, t] ty #[.slice A k k, .slice (some B) m c]).run P w = .ok v' w' ∧ w.grownBy w' none ∧ w'.ownsRow w.heap.size e n v' (k + m) (xs ++ ys) := by
  obtain ⟨i, hi0, hz0, hz1, hz2⟩ := info_partsV hi
  have hbb : (k + m) * by' ≤ 140737488355328 := Nat.le_trans (Nat.mul_le_mul hnm hby) (by decide)
  cases A with
  | some ad =>
    have holds : ∀ j u, xs[j]? = some u → w.cell? (ad.add j) = some u := by
      rcases hA with rfl | ⟨ad', e', h⟩
      · have : xs = [] := List.length_eq_zero_iff.1 (by simpa using hxs)
        subst this; intro j u hj; simp at hj
      · cases e'; exact h
    obtain ⟨v', w', hrun, r1, r2⟩ := run_append_arg_grows (P := P) w t ty e i z n by' ht hi0 hz0 hz1 hz2 hzs hn ad k k xs hxs holds B m c ys hys hB (by omega) (by simp only [maxLen]; omega) hbb
    exact ⟨v', w', hrun, r2, r1⟩
  | none =>
    have hk0 : k = 0 := by
      rcases hA with h | ⟨ad', e', _⟩
      · exact h
      · cases e'
    subst hk0
    have : xs = [] := List.length_eq_zero_iff.1 (by simpa using hxs)
    subst this
    obtain ⟨v', w', hrun, r1, r2, _⟩ := run_append_own (P := P) w w.heap.size t ty e i z n by' ht hi0 hz0 hz1 hz2 hzs hn (.slice none 0 0) 0 [] (World.ownsRow_nil w _ e n) B m c ys hys hB h1 (by simp only [maxLen]; omega) (by simpa using hbb) (Nat.le_refl _)
    exact ⟨v', w', hrun, r2, r1⟩
/-- as a step of a drawn region's chain -/
theorem wpSeqL_appFullO {P : Program} {S : World → Prop} {F : Act → World → Prop} {w : World} {ops : Array Oper} {rest : List Oper} {o : Oper} {a : Act} (hgd : o.guard = none) (hfr : freeOp o = false) (s x : Operand) (t : TypeId)
    (ho : o.op = .call { callee := .builtin .append, args := #[s, x], argTypes := #[t, t] })
    (e : TypeId) {n by' : Nat} {z : Value} (ht : P.underlying t = some (.slice e)) (hi : (P.info? e).map (fun i => (i.zero, i.size, i.bytes)) = some (some z, n, by')) (hzs : z.cells.size = n) (hn : 0 < n) (hby : by' ≤ 1048576)
    {A : Option Addr} {B : Addr} {k m c : Nat} (xs ys : List Value) (hs : a.eval s = .slice A k k) (hx : a.eval x = .slice (some B) m c) (hxs : xs.length = k * n) (hA : k = 0 ∨ ∃ ad, A = some ad ∧ ∀ j u, xs[j]? = some u → w.cell? (ad.add j) = some u)
    (hys : ys.length = m * n) (hB : ∀ j u, ys[j]? = some u → w.cell? (B.add j) = some u) (h1 : ∀ u ∈ ys, u.oneCell' = true) (hm : 0 < m) (hnm : k + m ≤ 67108864)
    (h : ∀ A' c' w', w.grownBy w' none → Hid (w'.ownsRow w.heap.size e n (.slice A' (k + m) c') (k + m) (xs ++ ys)) → S w' ∧ wpSeqL P ops S F rest (a.put o.dst (.slice A' (k + m) c')) w') :
    wpSeqL P ops S F (o :: rest) a w := by
  refine wpSeqL_link hfr fun K hK => ?_
  rw [if_pos (by simp [Region.wanted, hgd])]
  obtain ⟨v', w', hrun, h2, h3⟩ := run_append_fullO (P := P) w t o.type e ht hi hzs hn hby (A := A) (B := B) (k := k) (m := m) (c := c) xs ys hxs hA hys hB h1 hm hnm
  unfold Oper.chain execOp
  simp only [ho, resolve, invoke, builtin, Sem.run_bind, Sem.run_pure, Result.andThen_ok, List.map_toArray, List.map_cons, List.map_nil, hs, hx, hrun]
  obtain ⟨A', c', e'⟩ := own_slice h3
  subst e'
  obtain ⟨k1, k2⟩ := h A' c' w' h2 (Lib.hid h3)
  exact hK _ _ k1 k2
theorem load_noneV {P : Program} (w : World) (b : Addr) : (loadCells b 0).run P w = .ok #[] w := by simp [loadCells, loadCellsFrom]
/-- append of nothing -/
theorem wpSeqL_appNilO {P : Program} {S : World → Prop} {F : Act → World → Prop} {w : World} {ops : Array Oper} {rest : List Oper} {o : Oper} {a : Act} (hgd : o.guard = none) (hfr : freeOp o = false) (s x : Operand) (t : TypeId)
    (ho : o.op = .call { callee := .builtin .append, args := #[s, x], argTypes := #[t, t] })
    (e : TypeId) {n by' : Nat} {z : Value} (ht : P.underlying t = some (.slice e)) (hi : (P.info? e).map (fun i => (i.zero, i.size, i.bytes)) = some (some z, n, by'))
    {A : Addr} {B : Option Addr} {k c : Nat} (hs : a.eval s = .slice (some A) k k) (hx : a.eval x = .slice B 0 c)
    (h : S w ∧ wpSeqL P ops S F rest (a.put o.dst (.slice (some A) k k)) w) :
    wpSeqL P ops S F (o :: rest) a w := by
  refine wpSeqL_link hfr fun K hK => ?_
  rw [if_pos (by simp [Region.wanted, hgd])]
  obtain ⟨i, hi0, hz0, hz1, hz2⟩ := info_partsV hi
  have hrun : (Builtin.append_ #[t, t] o.type #[.slice (some A) k k, .slice B 0 c]).run P w = .ok (.slice (some A) k k) w := by
    cases B <;> simp [Builtin.append_, run_underlying ht, sizeOf, typeInfo, hi0, Builtin.lenOf, Builtin.firstCells, storeCells, load_noneV]
  unfold Oper.chain execOp
  simp only [ho, resolve, invoke, builtin, Sem.run_bind, Sem.run_pure, Result.andThen_ok, List.map_toArray, List.map_cons, List.map_nil, hs, hx, hrun]
  exact hK _ _ h.1 h.2
/-- two cells of an own row are written -/
theorem run_store2 {P : Program} (w : World) (t : TypeId) (g off : Nat) (c0 c1 : Value) (hi : (P.info? t).map (·.size) = some 2) (h0 : c0.oneCell' = true) (h1 : c1.oneCell' = true) (h : w.there g off 2) :
    (storeR t (.pointer (some ⟨g, off, none⟩)) (.agg #[c0, c1])).run P w = .ok () ((w.setCell ⟨g, off, none⟩ c0).setCell ⟨g, off + 1, none⟩ c1) := by
  show (Instr.storeAt t (.pointer (some ⟨g, off, none⟩)) (.agg #[c0, c1])).run P w = _
  have := run_storeAt_mid (P := P) w g off t #[c0, c1] (by simpa using h) (by simpa using hi) (by simp [h0, h1])
  have h2 : (Instr.storeAt t (.pointer (some ⟨g, off, none⟩)) (.agg #[c0, c1])).run P w = .ok () (w.setCells g off [c0, c1]) := by simpa using this
  exact h2
end Go

/- WALKS over jalousieref21: of each name the last one, by rising names; the place of a name. No condition but bounds. -/
namespace Go
open Go.RowKit
theorem bytesLess_iff (a b : ByteArray) : Op.bytesLess a.toList b.toList = decide (a.data.toList < b.data.toList) := by
  rw [Proofs.bytesLess_eq, ByteArray.toList_eq, ByteArray.toList_eq]
theorem u8_lt_of {a b : List UInt8} (h : ¬ a < b) (hne : a ≠ b) : b < a := str_lt_of (List.not_lt.1 h) fun e => hne e.symm
/-- a name's place as a number, or less than nothing -/
def placeI (o : List Cu) (nm : ByteArray) : Int := match placeN o nm with | none => -1 | some i => (i : Int)
/-- where one of a name goes -/
theorem Tells.at_put {k : Known} {o : List Cu} {c d : Cu} {at' : Nat} (h : Tells k o) (hd : o[at']? = some d) (e : d.n = c.n) : Tells (setK k c.n (some c.ts)) (o.set at' c) := by
  obtain ⟨hl, hx⟩ := List.getElem?_eq_some_iff.1 hd
  have h1 : o = o.take at' ++ d :: o.drop (at' + 1) := by rw [← hx, ← List.drop_eq_getElem_cons hl, List.take_append_drop]
  rw [List.set_eq_take_append_cons_drop, if_pos hl]
  rw [h1] at h
  have h2 := h.put (c := c) e
  exact h2
theorem Tells.at_ins {k : Known} {o : List Cu} {c : Cu} {at' : Nat} (h : Tells k o) (hl : at' ≤ o.length) (hA : ∀ j d, j < at' → o[j]? = some d → d.n.data.toList < c.n.data.toList) (hB : ∀ d, o[at']? = some d → c.n.data.toList < d.n.data.toList) : Tells (setK k c.n (some c.ts)) (o.take at' ++ c :: o.drop at') := by
  have h1 : Tells k (o.take at' ++ o.drop at') := by rw [List.take_append_drop]; exact h
  refine h1.ins (fun a ha => ?_) fun b hb => ?_
  · obtain ⟨j, hj, rfl⟩ := List.mem_iff_getElem.1 ha
    have hj2 : j < at' := by simp at hj; omega
    rw [List.getElem_take]
    exact hA j _ hj2 (List.getElem?_eq_getElem (by omega))
  · obtain ⟨j, hj, rfl⟩ := List.mem_iff_getElem.1 hb
    have hj2 : at' + j < o.length := by simp at hj; omega
    have h0 := hB o[at'] (List.getElem?_eq_getElem (by omega))
    rw [List.getElem_drop]
    by_cases e : j = 0
    · subst e; exact h0
    · exact List.lt_trans h0 (List.pairwise_iff_getElem.1 h.up at' (at' + j) (by omega) hj2 (by omega))
end Go
namespace Go.Proofs.YthcaphoejplecaaGreatDoor
open Go.RowKit Go.Maps
set_option maxRecDepth 100000 in
set_option maxHeartbeats 4000000 in
/-- the place of a name, or less than nothing -/
theorem fplace_any {w : World} {S : Nat → Prop} {v : Value} {o : List Cu} {nm : ByteArray} (h : CusAt w S v o) (hl : o.length ≤ 8388608) : Calls Tryz.prog 21 #[v, .string nm] w (Gives w (.int .i64 (placeI o nm))) := by
  obtain ⟨p, hp⟩ : ∃ p, placeI o nm = p := ⟨_, rfl⟩
  have HPP := Lib.hid hp
  rw [hp]
  clear hp
  obtain ⟨a, cap, rfl, -, -⟩ := SlAt.len h
  have H := Lib.hid h
  clear h
  go_enter Tryz.func21, Tryz.ntmps21
  go_wp2_with fail
  go_loopg [9] o.length (fun gn v9 wj => ∃ i : Nat, Hid (gn + i = o.length ∧ i ≤ o.length) ∧ v9 = .int .i64 i ∧ w.grows wj ∧ Hid (∀ j c, j < i → o[j]? = some c → c.n ≠ nm))
  case atStart => exact ⟨0, Lib.hid ⟨by simp, Nat.zero_le _⟩, by go_num, (by repeat (with_reducible first | assumption | exact grA | apply grB | apply grC | apply grD | refine grE ?_ (by omega) _ | refine grF ?_ (by omega) _ _)), Lib.hid fun j c h => by omega⟩
  case round =>
    obtain ⟨i, HQ, rfl, hgj, HN⟩ := hrel
    obtain ⟨j1, j2⟩ := HQ.out
    by_cases hlt : i < o.length
    · have i1 : (0 : Int) ≤ (i : Int) := by omega
      have i2 : (i : Int) < (o.length : Int) := by omega
      have iw : IntKind.i64.wrap ((i : Int) + 1) = (i : Int) + 1 := by rw [IntKind.wrap_i64]; omega
      have hgt : o[i]? = some o[i] := List.getElem?_eq_getElem hlt
      obtain ⟨g, off, cs, rfl, -, -, k1, hv⟩ := H.out.elt hgt
      generalize o[i] = x at *
      obtain ⟨nx, ts⟩ := x
      obtain ⟨hnm, t, rfl, hts, htl⟩ := hv
      obtain ⟨aT, cT, rfl, -, -⟩ := hts.len
      have k2 := k1.grows hgj
      have z3 := lt_sz k2.lt
      obtain ⟨u1, u2⟩ := k2
      replace u1 : segOk (off + i * 2) 2 (wr.row g) = true := u1
      replace u2 : segV (off + i * 2) 2 (wr.row g) = .agg #[.string nx, .slice aT ts.length cT] := u2
      have HGT := Lib.hid hgt
      clear hgt hts htl k1
      by_cases hnn : nx = nm
      · subst hnn
        have hb : (nx.toList == nx.toList) = true := by simp
        have HP := Lib.hid (show placeN o nx = some i by
          unfold placeN
          rw [List.findIdx?_eq_some_iff_getElem]
          refine ⟨hlt, ?_, fun j hj => ?_⟩
          · have := HGT.out
            rw [List.getElem?_eq_getElem hlt] at this
            injection this with this
            simp [this]
          · have := HN.out j _ hj (List.getElem?_eq_getElem (by omega))
            simpa using this)
        go_wp2_with fail
        go_ret
        have e : p = (i : Int) := by rw [← HPP.out]; unfold placeI; rw [HP.out]
        rw [e]
        exact ⟨rfl, hgj.trans (by repeat (with_reducible first | assumption | exact grA | apply grB | apply grC | apply grD | refine grE ?_ (by omega) _ | refine grF ?_ (by omega) _ _))⟩
      · have hb : (nx.toList == nm.toList) = false := by
          rw [beq_eq_false_iff_ne]; exact fun e => hnn (ba_toList_inj e)
        have hb2 : ¬ nx.toList = nm.toList := fun e => hnn (ba_toList_inj e)
        have HNN := Lib.hid hnn
        clear hnn
        go_wp2_with fail
        go_roundg (o.length - (i + 1))
        case measure => omega
        case rel => exact ⟨i + 1, Lib.hid ⟨by omega, by omega⟩, by go_num, hgj.trans (by repeat (with_reducible first | assumption | exact grA | apply grB | apply grC | apply grD | refine grE ?_ (by omega) _ | refine grF ?_ (by omega) _ _)), Lib.hid fun j c h1 h2 => by
          by_cases e : j = i
          · subst e; rw [HGT.out] at h2; injection h2 with h2; rw [← h2]; exact HNN.out
          · exact HN.out j c (by omega) h2⟩
    · have i2 : ¬ (i : Int) < (o.length : Int) := by omega
      obtain rfl : i = o.length := by omega
      have HP := Lib.hid (show placeN o nm = none by
        unfold placeN
        rw [List.findIdx?_eq_none_iff]
        intro c hc
        obtain ⟨j, hj, rfl⟩ := List.mem_iff_getElem.1 hc
        have := HN.out j _ hj (List.getElem?_eq_getElem hj)
        simpa using this)
      go_wp2_with fail
      go_ret
      have e : p = -1 := by rw [← HPP.out]; unfold placeI; rw [HP.out]
      rw [e]
      exact ⟨rfl, hgj.trans (by repeat (with_reducible first | assumption | exact grA | apply grB | apply grC | apply grD | refine grE ?_ (by omega) _ | refine grF ?_ (by omega) _ _))⟩
/-- how last ends -/
def LastPost (w : World) (S : Nat → Prop) (l : List Cu) (e : Ending) (w' : World) : Prop := ∃ (r : Value) (o : List Cu), e = .returned r ∧ w.grows w' ∧ Tells (findCu l) o ∧ o.length ≤ l.length ∧ OwnAt w' w.heap.size 30 2 (CuR w S) r o
/-- an own row that is not empty -/
theorem own_some {w : World} {B n k : Nat} {e : TypeId} {A : Option Addr} {c : Nat} {xs : List Value} (h : w.ownsRow B e n (.slice A k c) k xs) (hk : 0 < k) :
    ∃ g, A = some ⟨g, 0, none⟩ ∧ B ≤ g ∧ g < w.heap.size ∧ k ≤ c ∧ w.there g 0 (k * n) ∧ ∀ j u, xs[j]? = some u → w.cell? ⟨g, j, none⟩ = some u := by
  obtain ⟨h1, h2⟩ := h
  rcases h2 with ⟨_, h2⟩ | ⟨g, cap, cur, he, hb, hr, hkc, _, hs, ht⟩
  · omega
  injection he with e1 e2 e3
  subst e1; subst e3
  have hr2 : w.row g = some (.cells cur e (0, 0)) := hr
  have hm : k * n ≤ c * n := Nat.mul_le_mul_right n hkc
  refine ⟨g, rfl, hb, (row_sz' hr).1, hkc, fun j hj => ?_, fun j u hj => ?_⟩
  · rw [World.cell?_row, World.frozen?_row, hr2]
    refine ⟨?_, ?_⟩
    · show (cur[0 + j]?).isSome = true
      rw [Array.getElem?_eq_getElem (by omega)]; rfl
    · show (decide (0 ≤ 0 + j) && decide (0 + j < 0)) = false
      simp
  · rw [World.cell?_row, hr2]
    show cur[j]? = some u
    rw [← ht] at hj
    rw [List.getElem?_take] at hj
    split at hj
    · simpa using hj
    · cases hj
theorem layV_two (l : List Value) (o : Nat) (a b : Value) (h : o + 1 < l.length) : (l.set o a).set (o + 1) b = layV l o [a, b] := by
  unfold layV
  apply List.ext_getElem?
  intro i
  have h1 : (l.take o).length = o := by rw [List.length_take]; omega
  rcases Nat.lt_trichotomy i o with hi | hi | hi
  · rw [List.getElem?_set_ne (by omega), List.getElem?_set_ne (by omega), List.append_assoc, List.getElem?_append_left (by omega), List.getElem?_take_of_lt hi]
  · subst hi
    rw [List.getElem?_set_ne (by omega), List.getElem?_set_self (by omega), List.append_assoc, List.getElem?_append_right (by omega), h1]
    simp
  · by_cases hi2 : i = o + 1
    · subst hi2
      rw [List.getElem?_set_self (by simp; omega), List.append_assoc, List.getElem?_append_right (by omega), h1]
      simp
    · rw [List.getElem?_set_ne (by omega), List.getElem?_set_ne (by omega), List.getElem?_append_right (by simp; omega), List.getElem?_drop]
      congr 1
      simp; omega
theorem flat_two : ∀ (css : List (List Value)), (∀ c ∈ css, c.length = 2) → css.flatten.length = css.length * 2
  | [], _ => rfl
  | c :: css, h => by
    rw [List.flatten_cons, List.length_append, flat_two css fun x hx => h x (by simp [hx]), h c (by simp), List.length_cons]; omega
theorem layV_css {css : List (List Value)} {q : Nat} {cs : List Value} (h : ∀ c ∈ css, c.length = 2) (hq : q < css.length) (hc : cs.length = 2) : layV css.flatten (q * 2) cs = (css.set q cs).flatten := by
  have e : css = css.take q ++ css[q] :: css.drop (q + 1) := by rw [← List.drop_eq_getElem_cons hq, List.take_append_drop]
  have h1 : (css.take q).flatten.length = q * 2 := by
    rw [flat_two _ fun c hc => h c (List.mem_of_mem_take hc), List.length_take]
    congr 1; omega
  rw [List.set_eq_take_append_cons_drop, if_pos hq]
  conv => lhs; rw [e]
  rw [List.flatten_append, List.flatten_cons, List.flatten_append, List.flatten_cons, ← h1, ← List.append_assoc, layV_mid _ _ _ _ (by rw [hc]; exact h _ (List.getElem_mem hq)), List.append_assoc]
/-- a custom in a row of one's own is written over -/
theorem own_set2 {w : World} {B k c g q : Nat} {e : TypeId} {css : List (List Value)} {v0 v1 : Value} (h : w.ownsRow B e 2 (.slice (some ⟨g, 0, none⟩) k c) k css.flatten) (hl : css.length = k) (h2 : ∀ c ∈ css, c.length = 2) (hq : q < k) :
    ((w.setCell ⟨g, q * 2, none⟩ v0).setCell ⟨g, q * 2 + 1, none⟩ v1).ownsRow B e 2 (.slice (some ⟨g, 0, none⟩) k c) k (css.set q [v0, v1]).flatten := by
  rw [← layV_css h2 (by omega) rfl]
  refine own_layV h (by simp; omega) fun cur hr => ?_
  have hcs : q * 2 + 1 < cur.toList.length := by
    obtain ⟨_, h3⟩ := h
    rcases h3 with ⟨h3, _⟩ | ⟨g', cap', cur', e', _, hr', hkc, _, hs, _⟩
    · cases h3
    injection e' with e1 e2 e3
    injection e1 with e1
    injection e1 with e1
    subst e1
    have hr2 : w.row g = _ := hr'
    rw [hr] at hr2
    injection hr2 with hr'
    injection hr' with hr'
    subst hr'
    have : k * 2 ≤ cap' * 2 := Nat.mul_le_mul_right 2 hkc
    simp; omega
  rw [World.row_setCell, if_pos rfl, World.row_setCell, if_pos rfl, hr]
  show some (Obj.cells ((cur.setIfInBounds (q * 2) v0).setIfInBounds (q * 2 + 1) v1) e (0, 0)) = _
  congr 2
  rw [← layV_two _ _ _ _ hcs]
  apply Array.toList_inj.1
  simp
end Go.Proofs.YthcaphoejplecaaGreatDoor

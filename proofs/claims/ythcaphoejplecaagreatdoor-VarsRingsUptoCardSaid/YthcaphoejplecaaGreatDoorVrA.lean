/- PLAIN: custom properties: who leans on whom, who on itself; what they come to is one thing alone. No condition; no program. -/
import Derived.Test.YthcaphoejplecaaGreatDoorVb1
set_option linter.unusedSimpArgs false
set_option linter.unusedVariables false
namespace Go
open Go.RowKit
mutual
/-- does a name stand in a use? -/
def namV (nm : ByteArray) : Vt → Prop
  | .mk t ks => (useT (.mk t ks) = true ∧ ∃ r, namedT (.mk t ks) = some (nm, r)) ∨ namL nm ks
def namL (nm : ByteArray) : List Vt → Prop
  | [] => False
  | x :: l => namV nm x ∨ namL nm l
end
theorem namL_mem {nm : ByteArray} {l : List Vt} : namL nm l ↔ ∃ x ∈ l, namV nm x := by
  induction l with
  | nil => simp [namL]
  | cons x l ih => simp [namL, ih]
theorem mem_addU {out : List ByteArray} {v : Vt} {nm : ByteArray} : nm ∈ addU out v ↔ nm ∈ out ∨ (useT v = true ∧ ∃ r, namedT v = some (nm, r)) := by
  unfold addU
  by_cases hu : useT v = true
  · rw [if_pos hu]
    cases hN : namedT v with
    | none => simp
    | some y =>
      obtain ⟨n2, r⟩ := y
      simp only [addN]
      split
      · rename_i ha
        refine ⟨.inl, fun h => ?_⟩
        rcases h with h | ⟨_, r2, h⟩
        · exact h
        · simp only [Option.some.injEq, Prod.mk.injEq] at h
          obtain ⟨s, h1, h2⟩ := List.any_eq_true.1 ha
          rw [← h.1, ← of_decide_eq_true h2]; exact h1
      · simp only [List.mem_append, List.mem_singleton, Option.some.injEq, Prod.mk.injEq]
        constructor
        · rintro (h | rfl)
          · exact .inl h
          · exact .inr ⟨hu, r, rfl, rfl⟩
        · rintro (h | ⟨_, r2, h, _⟩)
          · exact .inl h
          · exact .inr h.symm
  · rw [if_neg hu]; simp [hu]
theorem mem_usesL : ∀ (l : List Vt) (out : List ByteArray) (nm : ByteArray), nm ∈ usesL out l ↔ nm ∈ out ∨ namL nm l
  | [], out, nm => by simp [usesL, namL]
  | .mk t ks :: l, out, nm => by
    rw [usesL_cons, mem_usesL l, mem_usesL ks, mem_addU, namL, namV]
    simp only [or_assoc]
termination_by l => nodesL l
decreasing_by all_goals (simp [nodesL, Vt.nodes]; try omega)
theorem nodup_addU {out : List ByteArray} (h : out.Nodup) (v : Vt) : (addU out v).Nodup := by
  unfold addU
  split
  · split
    · exact h
    · unfold addN
      split
      · exact h
      · rename_i nm r hN ha
        rw [List.nodup_append]
        refine ⟨h, by simp, fun a ha2 b hb e => ha ?_⟩
        rw [List.mem_singleton.1 hb] at e
        exact List.any_eq_true.2 ⟨a, ha2, by simpa using e⟩
  · exact h
theorem nodup_usesL : ∀ (l : List Vt) (out : List ByteArray), out.Nodup → (usesL out l).Nodup
  | [], out, h => by simpa [usesL] using h
  | .mk t ks :: l, out, h => by
    rw [usesL_cons]
    exact nodup_usesL l _ (nodup_usesL ks _ (nodup_addU h _))
termination_by l => nodesL l
decreasing_by all_goals (simp [nodesL, Vt.nodes]; try omega)
theorem nodup_usesT (l : List Tk) : (usesT l).Nodup := by
  unfold usesT
  split
  · exact nodup_usesL _ _ List.nodup_nil
  · exact List.nodup_nil
/-- what is put hangs on what is known of the names that are used -/
theorem putR_congr {k k' : Known} : ∀ (n : Nat) (l : List Vt) (out : List Tk), (∀ nm, namL nm l → k nm = k' nm) → putR k n out l = putR k' n out l
  | 0, l, out, _ => rfl
  | n + 1, [], out, _ => rfl
  | n + 1, .mk t ks :: l, out, h => by
    have hv : ∀ nm, namV nm (.mk t ks) → k nm = k' nm := fun nm hn => h nm (by rw [namL]; exact .inl hn)
    have hl : ∀ nm, namL nm l → k nm = k' nm := fun nm hn => h nm (by rw [namL]; exact .inr hn)
    have hk : ∀ nm, namL nm ks → k nm = k' nm := fun nm hn => hv nm (by rw [namV]; exact .inr hn)
    have hs : stepR k n out (.mk t ks) = stepR k' n out (.mk t ks) := by
      rw [stepR_eq, stepR_eq]
      by_cases hu : useT (.mk t ks) = true
      · rw [if_pos hu, if_pos hu]
        unfold useR
        cases hN : namedT (.mk t ks) with
        | none => rfl
        | some y =>
          obtain ⟨nm, rest⟩ := y
          simp only
          rw [hv nm (by rw [namV]; exact .inl ⟨hu, rest, hN⟩)]
          cases k' nm with
          | some ts => rfl
          | none =>
            simp only
            split
            · rfl
            · refine putR_congr n _ out fun nm2 hn2 => hk nm2 ?_
              obtain ⟨y, hy, hyn⟩ := namL_mem.1 hn2
              refine namL_mem.2 ⟨y, ?_, hyn⟩
              obtain ⟨x, rest, rfl⟩ : ∃ x r, rest = x :: r := by
                cases rest with
                | nil => rename_i hne; exact absurd rfl hne
                | cons x r => exact ⟨x, r, rfl⟩
              obtain ⟨a, l2, h1, _, h3⟩ := namedT_some hN
              have q1 : y ∈ trimT l2 := by rw [← h3]; exact List.mem_cons_of_mem _ (mem_trim hy)
              exact mem_trim (by rw [show trimT ks = a :: l2 from h1]; exact List.mem_cons_of_mem _ (mem_trim q1))
      · rw [if_neg hu, if_neg hu]
        split
        · cases moreT out [t] with
          | none => rfl
          | some o =>
            unfold openR
            simp only
            rw [putR_congr n ks o hk]
        · rfl
    rw [putR_cons, putR_cons, hs]
    cases stepR k' n out (.mk t ks) with
    | none => rfl
    | some o => exact putR_congr (n + 1) l o hl
termination_by n l => (n, l.length)
theorem putAll_congr {k k' : Known} {l : List Tk} (h : ∀ nm ∈ usesT l, k nm = k' nm) : putAll k l = putAll k' l := by
  unfold putAll
  cases hm : mayV 64 (parse l) with
  | false => simp
  | true =>
    simp only [Bool.true_eq_false, if_false]
    rw [(putPR_same k 65 (parse l) [] (by decide)).1, (putPR_same k' 65 (parse l) [] (by decide)).1, putR_congr 65 (parse l) [] fun nm hn => h nm (by unfold usesT; rw [if_pos hm, mem_usesL]; exact .inr hn)]
/-- a names b, which is declared -/
def Lean1 (m : Known) (a b : ByteArray) : Prop := ∃ ts, m a = some ts ∧ b ∈ usesT ts ∧ m b ≠ none
/-- a leans on b, by however many steps -/
inductive Leans (m : Known) : ByteArray → ByteArray → Prop
  | one {a b : ByteArray} (h : Lean1 m a b) : Leans m a b
  | more {a b c : ByteArray} (h : Leans m a b) (h' : Lean1 m b c) : Leans m a c
theorem Leans.trans {m : Known} {a b c : ByteArray} (h : Leans m a b) (h' : Leans m b c) : Leans m a c := by
  induction h' with
  | one h1 => exact .more h h1
  | more _ h1 ih => exact .more ih h1
theorem Leans.dst {m : Known} {a b : ByteArray} (h : Leans m a b) : m b ≠ none := by
  cases h with
  | one h => obtain ⟨_, _, _, h⟩ := h; exact h
  | more _ h => obtain ⟨_, _, _, h⟩ := h; exact h
theorem Leans.src {m : Known} {a b : ByteArray} (h : Leans m a b) : m a ≠ none := by
  induction h with
  | one h => obtain ⟨_, h, _⟩ := h; rw [h]; simp
  | more _ _ ih => exact ih
/-- what is put, if it may be -/
def okOf (p : List Tk × Int) : Option (List Tk) := if p.2 = 0 then some p.1 else none
/-- what custom properties come to: of what is declared and what is inherited -/
structure Sol (m ab F : Known) : Prop where
  out : ∀ n, m n = none → F n = ab n
  ring : ∀ n, Leans m n n → F n = none
  own : ∀ n ts, m n = some ts → ¬ Leans m n n → F n = okOf (putAll F ts)
theorem cntLt {α : Type} {p q : α → Bool} : ∀ (l : List α), (∀ x ∈ l, p x = true → q x = true) → ∀ a ∈ l, p a = false → q a = true → (l.filter p).length < (l.filter q).length
  | [], _, a, ha, _, _ => by cases ha
  | x :: l, h, a, ha, h1, h2 => by
    have hle : (l.filter p).length ≤ (l.filter q).length := by
      clear ha
      induction l with
      | nil => simp
      | cons y l ih =>
        have := ih (fun z hz => h z (by rcases List.mem_cons.1 hz with rfl | hz <;> simp_all))
        have hy := h y (by simp)
        cases hp : p y <;> cases hq : q y <;> simp_all <;> omega
    rcases List.mem_cons.1 ha with rfl | ha
    · simp [h1, h2]; omega
    · have := cntLt l (fun z hz => h z (by simp [hz])) a ha h1 h2
      have hx := h x (by simp)
      cases hp : p x <;> cases hq : q x <;> simp_all <;> omega
open Classical in
/-- it is one thing alone -/
theorem Sol.unique {m ab F G : Known} {names : List ByteArray} (hn : ∀ n, m n ≠ none → n ∈ names) (hF : Sol m ab F) (hG : Sol m ab G) : F = G := by
  have key : ∀ (N : Nat) (n : ByteArray), (names.filter fun x => decide (Leans m n x)).length ≤ N → F n = G n := by
    intro N
    induction N using Nat.strongRecOn with
    | _ N ih =>
      intro n hN
      cases hm : m n with
      | none => rw [hF.out n hm, hG.out n hm]
      | some ts =>
        by_cases hr : Leans m n n
        · rw [hF.ring n hr, hG.ring n hr]
        · rw [hF.own n ts hm hr, hG.own n ts hm hr, putAll_congr fun u hu => ?_]
          cases hmu : m u with
          | none => rw [hF.out u hmu, hG.out u hmu]
          | some tu =>
            have hl : Lean1 m n u := ⟨ts, hm, hu, by rw [hmu]; simp⟩
            by_cases hru : Leans m u u
            · rw [hF.ring u hru, hG.ring u hru]
            · have hlt := cntLt (p := fun x => decide (Leans m u x)) (q := fun x => decide (Leans m n x)) names (fun x _ hx => by
                  have := of_decide_eq_true hx
                  exact decide_eq_true (Leans.trans (.one hl) this)) u (hn u (by rw [hmu]; simp)) (decide_eq_false hru) (decide_eq_true (.one hl))
              exact ih _ (by omega) u (Nat.le_refl _)
  funext n
  exact key _ n (Nat.le_refl _)
/-- names in order, each once -/
def RiseC (r : List Cu) : Prop := r.Pairwise fun a b => a.n.data.toList < b.n.data.toList
/-- a list tells a map -/
structure Tells (F : Known) (r : List Cu) : Prop where
  up : RiseC r
  mem : ∀ c, c ∈ r ↔ F c.n = some c.ts
theorem u8_irrefl (a : List UInt8) : ¬ a < a := List.lt_irrefl a
theorem u8_asymm {a b : List UInt8} (h : a < b) (h' : b < a) : False := List.lt_irrefl a (List.lt_trans h h')
theorem RiseC.uniq : ∀ {r s : List Cu}, RiseC r → RiseC s → (∀ c, c ∈ r ↔ c ∈ s) → r = s
  | [], [], _, _, _ => rfl
  | [], c :: s, _, _, h => by have := (h c).2 (by simp); cases this
  | c :: r, [], _, _, h => by have := (h c).1 (by simp); cases this
  | c :: r, d :: s, hr, hs, h => by
    obtain ⟨r1, r2⟩ := List.pairwise_cons.1 hr
    obtain ⟨s1, s2⟩ := List.pairwise_cons.1 hs
    have e : c = d := by
      rcases List.mem_cons.1 ((h c).1 (by simp)) with h1 | h1
      · exact h1
      · rcases List.mem_cons.1 ((h d).2 (by simp)) with h2 | h2
        · exact h2.symm
        · exact (u8_asymm (s1 c h1) (r1 d h2)).elim
    subst e
    congr 1
    refine RiseC.uniq r2 s2 fun x => ⟨fun hx => ?_, fun hx => ?_⟩
    · rcases List.mem_cons.1 ((h x).1 (by simp [hx])) with h1 | h1
      · exact (u8_irrefl _ (by have := r1 x hx; rw [h1] at this; exact this)).elim
      · exact h1
    · rcases List.mem_cons.1 ((h x).2 (by simp [hx])) with h1 | h1
      · exact (u8_irrefl _ (by have := s1 x hx; rw [h1] at this; exact this)).elim
      · exact h1
theorem Tells.uniq {F : Known} {r s : List Cu} (hr : Tells F r) (hs : Tells F s) : r = s :=
  hr.up.uniq hs.up fun c => (hr.mem c).trans (hs.mem c).symm
/-- what is declared and what is inherited come to this list -/
def IsRes (m ab : Known) (r : List Cu) : Prop := ∃ F, Sol m ab F ∧ Tells F r
theorem findCu_names {l : List Cu} {n : ByteArray} (h : findCu l n ≠ none) : n ∈ l.map Cu.n := by
  unfold findCu at h
  split at h
  · cases hq : l.reverse.find? (fun c => decide (c.n = n)) with
    | none => rw [hq] at h; exact absurd rfl h
    | some c =>
      have h1 := List.mem_reverse.1 (List.mem_of_find?_eq_some hq)
      have h2 := List.find?_some hq
      simp only [decide_eq_true_iff] at h2
      rw [← h2]; exact List.mem_map_of_mem h1
  · exact absurd rfl h
theorem IsRes.uniq {l : List Cu} {ab : Known} {r s : List Cu} (hr : IsRes (findCu l) ab r) (hs : IsRes (findCu l) ab s) : r = s := by
  obtain ⟨F, h1, h2⟩ := hr
  obtain ⟨G, h3, h4⟩ := hs
  have e := h1.unique (fun n h => findCu_names h) h3
  subst e
  exact h2.uniq h4
/-- the names that a declared one leans on -/
def leansL (m : Known) (n : ByteArray) : List ByteArray := match m n with | none => [] | some ts => (usesT ts).filter fun u => (m u).isSome
theorem mem_leansL {m : Known} {n u : ByteArray} : u ∈ leansL m n ↔ Lean1 m n u := by
  unfold leansL Lean1
  cases m n with
  | none => simp
  | some ts => simp [Option.isSome_iff_ne_none]
/-- the search for a ring: names that are met, names to look at -/
structure DInv (m : Known) (n : ByteArray) (met : ByteArray → Bool) (o : List ByteArray) : Prop where
  i1 : ∀ x ∈ o, Leans m n x
  i2 : ∀ x, met x = true → x ≠ n ∧ m x ≠ none
  i3 : ∀ x, met x = true → ∀ u, Lean1 m x u → met u = true ∨ u ∈ o
  i4 : ∀ u, Lean1 m n u → met u = true ∨ u ∈ o
theorem DInv.start (m : Known) (n : ByteArray) : DInv m n (fun _ => false) (leansL m n) :=
  ⟨fun x hx => .one (mem_leansL.1 hx), fun x h => (by cases h), fun x h => (by cases h), fun u hu => .inr (mem_leansL.2 hu)⟩
theorem DInv.found {m : Known} {n : ByteArray} {met : ByteArray → Bool} {o : List ByteArray} (h : DInv m n met (o ++ [n])) : Leans m n n := h.i1 n (by simp)
theorem DInv.old {m : Known} {n x : ByteArray} {met : ByteArray → Bool} {o : List ByteArray} (h : DInv m n met (o ++ [x])) (hx : met x = true) : DInv m n met o :=
  ⟨fun y hy => h.i1 y (by simp [hy]), h.i2, fun y hy u hu => by
    rcases h.i3 y hy u hu with h1 | h1
    · exact .inl h1
    · rcases List.mem_append.1 h1 with h2 | h2
      · exact .inr h2
      · rw [List.mem_singleton.1 h2]; exact .inl hx, fun u hu => by
    rcases h.i4 u hu with h1 | h1
    · exact .inl h1
    · rcases List.mem_append.1 h1 with h2 | h2
      · exact .inr h2
      · rw [List.mem_singleton.1 h2]; exact .inl hx⟩
theorem DInv.new {m : Known} {n x : ByteArray} {met : ByteArray → Bool} {o : List ByteArray} (h : DInv m n met (o ++ [x])) (hx : x ≠ n) : DInv m n (fun y => if y = x then true else met y) (o ++ leansL m x) := by
  have hr := h.i1 x (by simp)
  have old : ∀ u, met u = true ∨ u ∈ o ++ [x] → (if u = x then true else met u) = true ∨ u ∈ o ++ leansL m x := fun u hu => by
    rcases hu with h1 | h1
    · left; split
      · rfl
      · exact h1
    · rcases List.mem_append.1 h1 with h2 | h2
      · exact .inr (by simp [h2])
      · rw [List.mem_singleton.1 h2]; left; simp
  refine ⟨fun y hy => ?_, fun y hy => ?_, fun y hy u hu => ?_, fun u hu => old u (h.i4 u hu)⟩
  · rcases List.mem_append.1 hy with h1 | h1
    · exact h.i1 y (by simp [h1])
    · exact .more hr (mem_leansL.1 h1)
  · split at hy
    · rename_i e; rw [e]; exact ⟨hx, hr.dst⟩
    · exact h.i2 y hy
  · split at hy
    · rename_i e; rw [e] at hu
      exact .inr (by simp [mem_leansL.2 hu])
    · exact old u (h.i3 y hy u hu)
theorem DInv.none {m : Known} {n : ByteArray} {met : ByteArray → Bool} (h : DInv m n met []) : ¬ Leans m n n := by
  have key : ∀ x, Leans m n x → met x = true := fun x hx => by
    induction hx with
    | one h1 =>
      rcases h.i4 _ h1 with h2 | h2
      · exact h2
      · cases h2
    | more _ h1 ih =>
      rcases h.i3 _ ih _ h1 with h2 | h2
      · exact h2
      · cases h2
  exact fun hr => (h.i2 n (key n hr)).1 rfl
/-- how far the visits have come: a colour of each name, what is known -/
structure VInv (m ab : Known) (col : ByteArray → Int) (k : Known) : Prop where
  c0 : ∀ x, col x = 0 ∨ col x = 1 ∨ col x = 2
  cm : ∀ x, col x ≠ 0 → m x ≠ none ∧ ¬ Leans m x x
  bl : ∀ x u, col x = 2 → Lean1 m x u → Leans m u u ∨ col u = 2
  ko : ∀ x, m x = none → k x = ab x
  kw : ∀ x, m x ≠ none → col x ≠ 2 → k x = none
  kb : ∀ x ts, m x = some ts → col x = 2 → k x = okOf (putAll k ts)
def setC (col : ByteArray → Int) (n : ByteArray) (c : Int) : ByteArray → Int := fun x => if x = n then c else col x
def setK (k : Known) (n : ByteArray) (o : Option (List Tk)) : Known := fun x => if x = n then o else k x
theorem VInv.start (m ab : Known) : VInv m ab (fun _ => 0) (fun x => if m x = none then ab x else none) :=
  ⟨fun _ => .inl rfl, fun _ h => absurd rfl h, fun _ _ h => (by cases h), fun x h => (by simp [h]), fun x h _ => (by simp [h]), fun _ _ _ h => (by cases h)⟩
theorem VInv.grey {m ab : Known} {col : ByteArray → Int} {k : Known} (h : VInv m ab col k) {n : ByteArray} (hn : m n ≠ none) (hr : ¬ Leans m n n) (hc : col n = 0) : VInv m ab (setC col n 1) k := by
  refine ⟨fun x => ?_, fun x hx => ?_, fun x u hx hu => ?_, h.ko, fun x hx hc2 => ?_, fun x ts hx hc2 => ?_⟩
  · unfold setC; split
    · exact .inr (.inl rfl)
    · exact h.c0 x
  · unfold setC at hx
    split at hx
    · rename_i e; rw [e]; exact ⟨hn, hr⟩
    · exact h.cm x hx
  · unfold setC at hx ⊢
    split at hx
    · cases hx
    · rcases h.bl x u hx hu with h1 | h1
      · exact .inl h1
      · right
        rw [if_neg (fun e => by rw [e, hc] at h1; cases h1)]; exact h1
  · refine h.kw x hx fun e => hc2 ?_
    unfold setC
    rw [if_neg (fun e2 => by rw [e2, hc] at e; cases e)]; exact e
  · unfold setC at hc2
    split at hc2
    · cases hc2
    · exact h.kb x ts hx hc2
theorem VInv.black {m ab : Known} {col : ByteArray → Int} {k : Known} (h : VInv m ab col k) {n : ByteArray} {ts : List Tk} (hn : m n = some ts) (hc : col n = 1) (hl : ∀ u, Lean1 m n u → Leans m u u ∨ col u = 2) : VInv m ab (setC col n 2) (setK k n (okOf (putAll k ts))) := by
  have hr := (h.cm n (by rw [hc]; decide)).2
  have hne : ∀ u, Lean1 m n u → u ≠ n := fun u hu e => hr (.one (by rw [e] at hu; exact hu))
  have hmn : m n ≠ none := by rw [hn]; simp
  have hput : ∀ x tx, m x = some tx → (x = n ∨ col x = 2) → putAll (setK k n (okOf (putAll k ts))) tx = putAll k tx := fun x tx hx hcx => putAll_congr fun u hu => by
    unfold setK
    rw [if_neg]
    intro e
    have hl1 : Lean1 m x n := ⟨tx, hx, e ▸ hu, hmn⟩
    rcases hcx with rfl | hcx
    · exact hne _ hl1 rfl
    · rcases h.bl x n hcx hl1 with h1 | h1
      · exact hr h1
      · rw [hc] at h1; cases h1
  refine ⟨fun x => ?_, fun x hx => ?_, fun x u hx hu => ?_, fun x hx => ?_, fun x hx hc2 => ?_, fun x tx hx hc2 => ?_⟩
  · unfold setC; split
    · exact .inr (.inr rfl)
    · exact h.c0 x
  · unfold setC at hx
    split at hx
    · rename_i e; rw [e]; exact ⟨hmn, hr⟩
    · exact h.cm x hx
  · have up : ∀ u, Leans m u u ∨ col u = 2 → Leans m u u ∨ setC col n 2 u = 2 := fun u hu => by
      rcases hu with h1 | h1
      · exact .inl h1
      · right; unfold setC; split
        · rfl
        · exact h1
    unfold setC at hx
    split at hx
    · rename_i e; rw [e] at hu; exact up u (hl u hu)
    · exact up u (h.bl x u hx hu)
  · unfold setK
    have hxn : x ≠ n := fun e => hmn (by rw [← e]; exact hx)
    rw [if_neg hxn]; exact h.ko x hx
  · unfold setC at hc2
    unfold setK
    split at hc2
    · exact absurd rfl hc2
    · rename_i e; rw [if_neg e]; exact h.kw x hx hc2
  · unfold setC at hc2
    by_cases e : x = n
    · subst e
      rw [hx] at hn; cases hn
      rw [hput x _ hx (.inl rfl)]
      unfold setK; rw [if_pos rfl]
    · rw [if_neg e] at hc2
      rw [hput x tx hx (.inr hc2)]
      unfold setK; rw [if_neg e]; exact h.kb x tx hx hc2
theorem VInv.sol {m ab : Known} {col : ByteArray → Int} {k : Known} (h : VInv m ab col k) (hall : ∀ n, m n ≠ none → ¬ Leans m n n → col n = 2) : Sol m ab k := by
  refine ⟨h.ko, fun n hr => h.kw n hr.src fun e => (h.cm n (by rw [e]; decide)).2 hr, fun n ts hn hr => h.kb n ts hn (hall n (by rw [hn]; simp) hr)⟩
end Go

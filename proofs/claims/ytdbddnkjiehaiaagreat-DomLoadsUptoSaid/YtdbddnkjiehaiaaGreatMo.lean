/- Texts of the walk, one after the other; what each proves stands ahead of it. -/
import Derived.Test.YtdbddnkjiehaiaaGreatMm
set_option linter.unusedSimpArgs false
set_option linter.unusedVariables false
/- PLAIN: what is wrong with elements, one by one, as Load tells. No condition; no program. -/
namespace Go
open Go.RowKit
/-- does a name not rise behind another? -/
def lateA (p : Option ByteArray) (x : ByteArray) : Bool := match p with | none => false | some q => !decide (q.data.toList < x.data.toList)
def atErr : Option ByteArray → List (ByteArray × ByteArray) → Int
  | _, [] => 0
  | p, x :: t => if (nameB x.1.data.toList && !lateA p x.1) = false then 10 else if 256 < x.2.size then 2 else atErr (some x.1) t
def El.err (e : El) (last : Int) : Int :=
  if e.id < 0 ∨ 1073741824 < e.id ∨ e.id ≤ last then 13
  else if nameB e.tag.data.toList = false then 10
  else if 16 < e.at'.length then 6
  else if atErr none e.at' ≠ 0 then atErr none e.at'
  else if boxE e.bx = false then 8 else 0
def elsErr : Int → List El → Int
  | _, [] => 0
  | last, e :: t => if e.err last ≠ 0 then e.err last else elsErr e.id t
theorem atErr_ok {p : Option ByteArray} {l : List (ByteArray × ByteArray)} (h : atErr p l = 0) : (∀ x ∈ l, nameB x.1.data.toList = true ∧ x.2.size ≤ 256) ∧ UpA l ∧ ∀ q, p = some q → ∀ x ∈ l, q.data.toList < x.1.data.toList := by
  induction l generalizing p with
  | nil => exact ⟨fun x hx => (nomatch hx), List.Pairwise.nil, fun _ _ x hx => (nomatch hx)⟩
  | cons a t ih =>
    unfold atErr at h
    split at h
    · cases h
    rename_i h1
    split at h
    · cases h
    rename_i h2
    obtain ⟨q1, q2, q3⟩ := ih h
    simp only [Bool.not_eq_false, Bool.and_eq_true, Bool.not_eq_true'] at h1
    have hlt := q3 a.1 rfl
    refine ⟨fun x hx => ?_, List.Pairwise.cons (fun x hx => hlt x hx) q2, fun q hq x hx => ?_⟩
    · rcases List.mem_cons.1 hx with rfl | hx
      · exact ⟨h1.1, by omega⟩
      · exact q1 x hx
    · have hqa : q.data.toList < a.1.data.toList := by
        have := h1.2
        rw [hq] at this
        simpa [lateA] using this
      rcases List.mem_cons.1 hx with rfl | hx
      · exact hqa
      · exact List.lt_trans hqa (hlt x hx)
structure El.Fine (e : El) : Prop where
  fit : e.Fit
  ups : UpA e.at'
  sht : ∀ x ∈ e.at', x.2.size ≤ 256
  few : e.at'.length ≤ 16
  low : 0 ≤ e.id
  top : e.id ≤ 1073741824
theorem El.err_ok {e : El} {last : Int} (h : e.err last = 0) : e.Fine ∧ last < e.id := by
  unfold El.err at h
  split at h
  · cases h
  rename_i h1
  split at h
  · cases h
  rename_i h2
  split at h
  · cases h
  rename_i h3
  split at h
  · rename_i h4; exact absurd h h4
  rename_i h4
  split at h
  · cases h
  rename_i h5
  obtain ⟨q1, q2, _⟩ := atErr_ok (Classical.not_not.1 h4)
  exact ⟨⟨⟨by simpa using h2, fun x hx => (q1 x hx).1, by simpa using h5⟩, q2, fun x hx => (q1 x hx).2, by omega, by omega, by omega⟩, by omega⟩
theorem elsErr_ok {l : List El} {last : Int} (h : elsErr last l = 0) : (∀ e ∈ l, e.Fine ∧ last < e.id) ∧ l.Pairwise fun a b => a.id < b.id := by
  induction l generalizing last with
  | nil => exact ⟨fun e he => (nomatch he), List.Pairwise.nil⟩
  | cons a t ih =>
    unfold elsErr at h
    split at h
    · rename_i h1; exact absurd h h1
    rename_i h1
    obtain ⟨q1, q2⟩ := El.err_ok (Classical.not_not.1 h1)
    obtain ⟨q3, q4⟩ := ih h
    refine ⟨fun e he => ?_, List.Pairwise.cons (fun x hx => (q3 x hx).2) q4⟩
    rcases List.mem_cons.1 he with rfl | he
    · exact ⟨q1, q2⟩
    · exact ⟨(q3 e he).1, Int.lt_trans q2 (q3 e he).2⟩
theorem elsErr_at {l : List El} {last : Int} {i : Nat} {e : El} (h : l[i]? = some e) : elsErr last (l.drop i) = if e.err last ≠ 0 then e.err last else elsErr e.id (l.drop (i + 1)) := by
  have hi := (List.getElem?_eq_some_iff.1 h).1
  have he := (List.getElem?_eq_some_iff.1 h).2
  rw [List.drop_eq_getElem_cons hi, he]
  rfl
theorem atErr_at {l : List (ByteArray × ByteArray)} {p : Option ByteArray} {i : Nat} {x : ByteArray × ByteArray} (h : l[i]? = some x) : atErr p (l.drop i) = if (nameB x.1.data.toList && !lateA p x.1) = false then 10 else if 256 < x.2.size then 2 else atErr (some x.1) (l.drop (i + 1)) := by
  have hi := (List.getElem?_eq_some_iff.1 h).1
  have he := (List.getElem?_eq_some_iff.1 h).2
  rw [List.drop_eq_getElem_cons hi, he]
  rfl
/-- the name ahead of a place -/
def prevA (l : List (ByteArray × ByteArray)) : Nat → Option ByteArray
  | 0 => none
  | j + 1 => l[j]?.map (·.1)
/-- an element as anybody makes it; so long its lists at most -/
def El.Wf0 (e : El) : Prop := I64 e.id ∧ I64 e.p ∧ e.tag.size ≤ maxLen ∧ (∀ k ∈ e.ks, I64 k) ∧ (∀ x ∈ e.at', x.1.size ≤ maxLen ∧ x.2.size ≤ maxLen) ∧ e.bx.Wf ∧ e.at'.length ≤ 1048576 ∧ e.ks.length ≤ 1048576
end Go

/- PLAIN: elements whose kids and parents fit, below a root: ways up, what is below one, how deep. No condition; no program. -/
namespace Go
open Go.RowKit
/-- kids and parents fit below a root -/
structure Shp0 (M : Dm) (r : Int) : Prop where
  up : M.els.Pairwise fun a b => a.id < b.id
  low : ∀ e ∈ M.els, 0 ≤ e.id
  few : M.els.length ≤ 256
  root : ∃ e ∈ M.els, e.id = r ∧ e.p = -1
  kid : ∀ e ∈ M.els, ∀ k ∈ e.ks, ∃ f ∈ M.els, f.id = k ∧ f.p = e.id
  once : ∀ e ∈ M.els, e.ks.Nodup
/-- the numbers from an element up to the root -/
inductive Pth (M : Dm) (r : Int) : Int → List Int → Prop
  | root : Pth M r r [r]
  | kid {f : El} {p : List Int} (hf : f ∈ M.els) (hr : f.id ≠ r) (h : Pth M r f.p p) : Pth M r f.id (f.id :: p)
theorem Pth.inv {M : Dm} {r x : Int} {p : List Int} (h : Pth M r x p) : (x = r ∧ p = [r]) ∨ ∃ f ∈ M.els, f.id = x ∧ x ≠ r ∧ ∃ q, p = x :: q ∧ Pth M r f.p q := by
  cases h with
  | root => exact .inl ⟨rfl, rfl⟩
  | kid hf hr h => exact .inr ⟨_, hf, rfl, hr, _, rfl, h⟩
theorem Pth.uniq {M : Dm} {r x : Int} {p q : List Int} (hu : M.els.Pairwise fun a b => a.id < b.id) (h : Pth M r x p) (h' : Pth M r x q) : p = q := by
  induction h generalizing q with
  | root =>
    rcases h'.inv with ⟨_, h2⟩ | ⟨f, _, _, h2, _⟩
    · exact h2.symm
    · exact absurd rfl h2
  | kid hf hr h ih =>
    rcases h'.inv with ⟨h2, _⟩ | ⟨f', hf', h2, _, q', h3, h4⟩
    · exact absurd h2 hr
    · obtain rfl := ids_inj hu hf' hf h2
      rw [h3, ih h4]
theorem Pth.pos {M : Dm} {r x : Int} {p : List Int} (h : Pth M r x p) : 1 ≤ p.length := by
  cases h <;> simp
theorem Pth.suf {M : Dm} {r x y : Int} {p : List Int} (h : Pth M r x p) (hy : y ∈ p) : ∃ s t, p = s ++ t ∧ Pth M r y t := by
  induction h with
  | root =>
    simp at hy; subst hy
    exact ⟨[], _, rfl, .root⟩
  | @kid f p hf hr h ih =>
    rcases List.mem_cons.1 hy with rfl | hy
    · exact ⟨[], _, rfl, .kid hf hr h⟩
    · obtain ⟨s, t, h1, h2⟩ := ih hy
      exact ⟨f.id :: s, t, by rw [h1]; rfl, h2⟩
theorem Pth.once {M : Dm} {r x : Int} {p : List Int} (hu : M.els.Pairwise fun a b => a.id < b.id) (h : Pth M r x p) : p.Nodup := by
  induction h with
  | root => simp
  | @kid f p hf hr h ih =>
    rw [List.nodup_cons]
    refine ⟨fun hm => ?_, ih⟩
    obtain ⟨s, t, h1, h2⟩ := h.suf hm
    have h3 := Pth.uniq hu h2 (Pth.kid hf hr h)
    have := congrArg List.length h1
    rw [h3] at this; simp at this; omega
theorem Pth.els {M : Dm} {r x : Int} {p : List Int} (hs : Shp0 M r) (h : Pth M r x p) : ∀ y ∈ p, ∃ e ∈ M.els, e.id = y := by
  induction h with
  | root =>
    intro y hy
    simp at hy; subst hy
    obtain ⟨e, he, h1, _⟩ := hs.root
    exact ⟨e, he, h1⟩
  | @kid f p hf hr h ih =>
    intro y hy
    rcases List.mem_cons.1 hy with rfl | hy
    · exact ⟨f, hf, rfl⟩
    · exact ih y hy
theorem Pth.len {M : Dm} {r x : Int} {p : List Int} (hs : Shp0 M r) (h : Pth M r x p) : p.length ≤ M.els.length := by
  have := nodup_len (m := M.els.map El.id) (h.once hs.up) fun y hy => by
    obtain ⟨e, he, h1⟩ := h.els hs y hy
    exact List.mem_map.2 ⟨e, he, h1⟩
  simpa using this
/-- an element may be walked with so much left -/
def Rch (M : Dm) (r : Int) (n : Nat) (e : El) : Prop := ∃ p, Pth M r e.id p ∧ n + p.length = 257
theorem Rch.none {M : Dm} {r : Int} {e : El} (hs : Shp0 M r) (h : Rch M r 0 e) : False := by
  obtain ⟨p, h1, h2⟩ := h
  have := h1.len hs
  have := hs.few
  omega
theorem Shp0.ne_root {M : Dm} {r : Int} (hs : Shp0 M r) {e f : El} (he : e ∈ M.els) (hf : f ∈ M.els) (h : f.p = e.id) : f.id ≠ r := fun hh => by
  obtain ⟨g, hg, h1, h2⟩ := hs.root
  obtain rfl := ids_inj hs.up hf hg (hh.trans h1.symm)
  have := hs.low e he
  omega
theorem Rch.kids {M : Dm} {r : Int} {n : Nat} {e : El} (hs : Shp0 M r) (he : e ∈ M.els) (h : Rch M r (n + 1) e) {k : Int} (hk : k ∈ e.ks) : ∃ f ∈ M.els, f.id = k ∧ f.p = e.id ∧ Rch M r n f := by
  obtain ⟨p, h1, h2⟩ := h
  obtain ⟨f, hf, h3, h4⟩ := hs.kid e he k hk
  exact ⟨f, hf, h3, h4, f.id :: p, Pth.kid hf (hs.ne_root he hf h4) (h4 ▸ h1), by simp; omega⟩
theorem below_atU {M : Dm} (hu : M.els.Pairwise fun a b => a.id < b.id) {e : El} (he : e ∈ M.els) (n : Nat) : M.below (n + 1) e.id = e.id :: e.ks.flatMap (M.below n) := by
  conv => lhs; unfold Dm.below
  rw [show M.at e.id = some e from findE_of hu he]
theorem Rch.up {M : Dm} {r : Int} (hs : Shp0 M r) : ∀ (n : Nat) (e : El), e ∈ M.els → Rch M r n e → ∀ p, Pth M r e.id p → ∀ x ∈ M.below n e.id, ∃ s, Pth M r x (s ++ p)
  | 0, e, _, h, _, _, _, _ => (h.none hs).elim
  | n + 1, e, he, h, p, hp, x, hx => by
    rw [below_atU hs.up he] at hx
    rcases List.mem_cons.1 hx with rfl | hx
    · exact ⟨[], hp⟩
    · obtain ⟨k, hk, hx⟩ := List.mem_flatMap.1 hx
      obtain ⟨f, hf, rfl, h4, h5⟩ := h.kids hs he hk
      obtain ⟨s, h6⟩ := Rch.up hs n f hf h5 (f.id :: p) (Pth.kid hf (hs.ne_root he hf h4) (h4 ▸ hp)) x hx
      exact ⟨s ++ [f.id], by simpa using h6⟩
theorem Rch.once {M : Dm} {r : Int} (hs : Shp0 M r) : ∀ (n : Nat) (e : El), e ∈ M.els → Rch M r n e → (M.below n e.id).Nodup
  | 0, e, _, h => (h.none hs).elim
  | n + 1, e, he, h => by
    obtain ⟨p, hp, _⟩ := id h
    have hk : ∀ k ∈ e.ks, ∀ x ∈ M.below n k, ∃ s, Pth M r x (s ++ k :: p) := fun k hk x hx => by
      obtain ⟨f, hf, rfl, h4, h5⟩ := h.kids hs he hk
      exact Rch.up hs n f hf h5 (f.id :: p) (Pth.kid hf (hs.ne_root he hf h4) (h4 ▸ hp)) x hx
    rw [below_atU hs.up he, List.nodup_cons]
    refine ⟨fun hm => ?_, ?_⟩
    · obtain ⟨k, hk', hx⟩ := List.mem_flatMap.1 hm
      obtain ⟨s, h6⟩ := hk k hk' _ hx
      have := congrArg List.length (Pth.uniq hs.up h6 hp)
      simp at this; omega
    · unfold List.Nodup
      rw [List.pairwise_flatMap]
      refine ⟨fun k hk' => ?_, (hs.once e he).imp_of_mem fun {k1 k2} m1 m2 hne x hx y hy hxy => ?_⟩
      · obtain ⟨f, hf, rfl, h4, h5⟩ := h.kids hs he hk'
        exact Rch.once hs n f hf h5
      · subst hxy
        obtain ⟨s1, q1⟩ := hk k1 m1 x hx
        obtain ⟨s2, q2⟩ := hk k2 m2 x hy
        have h7 := Pth.uniq hs.up q1 q2
        have h8 := List.append_inj' h7 (by simp)
        have h9 := h8.2
        injection h9 with h9 _
        exact hne h9
theorem Rch.mem {M : Dm} {r : Int} (hs : Shp0 M r) {n : Nat} {e : El} (he : e ∈ M.els) (h : Rch M r n e) {x : Int} (hx : x ∈ M.below n e.id) : ∃ f ∈ M.els, f.id = x := by
  obtain ⟨p, hp, _⟩ := id h
  obtain ⟨s, h1⟩ := Rch.up hs n e he h p hp x hx
  rcases h1.inv with ⟨rfl, _⟩ | ⟨f, hf, h2, _⟩
  · obtain ⟨g, hg, h2, _⟩ := hs.root
    exact ⟨g, hg, h2⟩
  · exact ⟨f, hf, h2⟩
theorem Rch.few {M : Dm} {r : Int} (hs : Shp0 M r) {n : Nat} {e : El} (he : e ∈ M.els) (h : Rch M r n e) : (M.below n e.id).length ≤ M.els.length := by
  have := nodup_len (m := M.els.map El.id) (Rch.once hs n e he h) fun x hx => by
    obtain ⟨f, hf, h1⟩ := h.mem hs he hx
    exact List.mem_map.2 ⟨f, hf, h1⟩
  simpa using this
theorem Rch.ofRoot {M : Dm} {r : Int} {e : El} (h : e.id = r) : Rch M r 256 e := ⟨[r], h ▸ Pth.root, rfl⟩
theorem Rch.par {M : Dm} {r : Int} (hs : Shp0 M r) : ∀ (n : Nat) (e : El), e ∈ M.els → Rch M r n e → ∀ x ∈ M.below n e.id, x = e.id ∨ ∃ f ∈ M.els, x ∈ f.ks
  | 0, e, _, h, _, _ => (h.none hs).elim
  | n + 1, e, he, h, x, hx => by
    rw [below_atU hs.up he] at hx
    rcases List.mem_cons.1 hx with rfl | hx
    · exact .inl rfl
    · obtain ⟨k, hk, hx⟩ := List.mem_flatMap.1 hx
      obtain ⟨f, hf, rfl, h4, h5⟩ := h.kids hs he hk
      rcases Rch.par hs n f hf h5 x hx with rfl | h6
      · exact .inr ⟨e, he, hk⟩
      · exact .inr h6
/-- all hang below the root: then each has a way up, and hangs below its parent -/
theorem Shp0.whole {M : Dm} {r : Int} (hs : Shp0 M r) (hl : (M.below 256 r).length = M.els.length) : (∀ e ∈ M.els, ∃ p, Pth M r e.id p) ∧ ∀ e ∈ M.els, e.id ≠ r → ∃ f ∈ M.els, f.id = e.p ∧ e.id ∈ f.ks := by
  obtain ⟨g, hg, h1, _⟩ := hs.root
  subst h1
  have hR : Rch M g.id 256 g := Rch.ofRoot rfl
  have hn := Rch.once hs 256 g hg hR
  have hall : ∀ e ∈ M.els, e.id ∈ M.below 256 g.id := fun e he => by
    apply Classical.byContradiction
    intro hne
    have h2 := nodup_len (l := e.id :: M.below 256 g.id) (m := M.els.map El.id) (List.nodup_cons.2 ⟨hne, hn⟩) fun x hx => by
      rcases List.mem_cons.1 hx with rfl | hx
      · exact List.mem_map.2 ⟨e, he, rfl⟩
      · obtain ⟨f, hf, h3⟩ := hR.mem hs hg hx
        exact List.mem_map.2 ⟨f, hf, h3⟩
    simp at h2; omega
  refine ⟨fun e he => ?_, fun e he hne => ?_⟩
  · obtain ⟨s, h2⟩ := Rch.up hs 256 g hg hR [g.id] Pth.root e.id (hall e he)
    exact ⟨_, h2⟩
  · rcases Rch.par hs 256 g hg hR e.id (hall e he) with h2 | ⟨f, hf, h2⟩
    · exact absurd h2 hne
    · obtain ⟨f', hf', h3, h4⟩ := hs.kid f hf _ h2
      obtain rfl := ids_inj hs.up hf' he h3
      exact ⟨f, hf, h4.symm, h2⟩
end Go

/- WALKS over dom and jalousieref8: wrong, attrs: of any element, any attributes. -/
namespace Go.Proofs.YtdbddnkjiehaiaaGreat
open Go.Maps Go.RowKit Go.Sort
theorem late_cases {x y : ByteArray} (h : lateA (some y) x = true) : Op.bytesLess x.toList y.toList = true ∨ (Op.bytesLess x.toList y.toList = false ∧ (x.toList == y.toList) = true) := by
  have h1 : ¬ y.data.toList < x.data.toList := by simpa [lateA] using h
  by_cases h2 : x.data.toList < y.data.toList
  · exact .inl (by rw [bytesLess_eq, ByteArray.toList_eq, ByteArray.toList_eq]; exact decide_eq_true h2)
  · refine .inr ⟨by rw [bytesLess_eq, ByteArray.toList_eq, ByteArray.toList_eq]; exact decide_eq_false h2, ?_⟩
    rw [ByteArray.toList_eq, ByteArray.toList_eq, beq_iff_eq]
    exact List.le_antisymm (List.not_lt.1 h1) (List.not_lt.1 h2)
theorem late_not {x y : ByteArray} (h : lateA (some y) x = false) : Op.bytesLess x.toList y.toList = false ∧ (x.toList == y.toList) = false := by
  have h1 : y.data.toList < x.data.toList := by simpa [lateA] using h
  refine ⟨?_, ?_⟩
  · rw [bytesLess_eq, ByteArray.toList_eq, ByteArray.toList_eq]
    exact decide_eq_false (List.not_lt.2 (List.le_of_lt h1))
  · rw [ByteArray.toList_eq, ByteArray.toList_eq]
    exact beq_eq_false_iff_ne.2 fun hh => by rw [hh] at h1; exact List.lt_irrefl _ h1
set_option maxRecDepth 100000 in
set_option maxHeartbeats 8000000 in
theorem domWrongG_any (w : World) (e : El) (last : Int) (ka aa : Option Addr) (kc ac : Nat) (ha : SlAt w (fun _ => True) 2 AtR (.slice aa e.at'.length ac) e.at') (hw : e.Wf0) :
    Calls Tryz.prog 10 #[.agg #[.int .i64 e.id, .int .i64 e.p, .string e.tag, .slice ka e.ks.length kc, .slice aa e.at'.length ac, .int .i64 e.bx.ty, .string e.bx.nm, .int .i64 e.bx.a, .int .i64 e.bx.b, .int .i64 e.bx.c, .int .i64 e.bx.d], .int .i64 last] w (Gives w (.int .i64 (e.err last))) := by
  obtain ⟨id, p, tag, ks, at', ty, nm, q1, q2, q3, q4⟩ := e
  have A1 := Lib.hid (ats_get ha).2
  obtain ⟨w1, w2, w3, w4, w5, w6, w7, w8⟩ := hw
  have HMB := Lib.hid (fun W => mayBox_any ty nm q1 q2 q3 q4 W w6.2.1 w6.2.2.1.1 w6.2.2.1.2 w6.2.2.2.1.1 w6.2.2.2.1.2 w6.2.2.2.2.1.1 w6.2.2.2.2.1.2 w6.2.2.2.2.2.1 w6.2.2.2.2.2.2)
  have HMT := Lib.hid (fun W => mayName_any tag W w3)
  have HMN := Lib.hid (fun (x : ByteArray × ByteArray) (hx : x ∈ at') (W : World) => mayName_any x.1 W (w5 x hx).1)
  have h16 := w7
  clear ha w1 w2 w3 w4 w5 w6 w7 w8
  unfold El.err boxE
  simp only at *
  by_cases hbad : id < 0 ∨ 1073741824 < id ∨ id ≤ last
  · rw [if_pos hbad]
    by_cases i0 : id < 0
    · go_enter Tryz.func10, Tryz.ntmps10
      go_wp2_with fail
      go_ret
      exact ⟨rfl, (by repeat (with_reducible first | assumption | exact grA | apply grB | apply grC | apply grD | refine grE ?_ (by omega) _ | refine grF ?_ (by omega) _ _))⟩
    by_cases i2 : (1073741824 : Int) < id
    · go_enter Tryz.func10, Tryz.ntmps10
      go_wp2_with fail
      go_ret
      exact ⟨rfl, (by repeat (with_reducible first | assumption | exact grA | apply grB | apply grC | apply grD | refine grE ?_ (by omega) _ | refine grF ?_ (by omega) _ _))⟩
    have i3 : id ≤ last := by omega
    clear hbad
    go_enter Tryz.func10, Tryz.ntmps10
    go_wp2_with fail
    go_ret
    exact ⟨rfl, (by repeat (with_reducible first | assumption | exact grA | apply grB | apply grC | apply grD | refine grE ?_ (by omega) _ | refine grF ?_ (by omega) _ _))⟩
  rw [if_neg hbad]
  have i0 : ¬ id < 0 := by omega
  have i2 : ¬ (1073741824 : Int) < id := by omega
  have i3 : ¬ id ≤ last := by omega
  clear hbad
  cases hnt : nameB tag.data.toList with
  | false =>
    rw [if_pos rfl]
    rw [hnt] at HMT
    go_enter Tryz.func10, Tryz.ntmps10
    go_wp2_with (go_at_call 40; (with_reducible refine (HMT.out _).mono ?_); rintro e w1 ⟨rfl, x1, rfl⟩)
    go_ret
    exact ⟨rfl, (by repeat (with_reducible first | assumption | exact grA | apply grB | apply grC | apply grD | refine grE ?_ (by omega) _ | refine grF ?_ (by omega) _ _))⟩
  | true =>
  rw [if_neg (by simp)]
  rw [hnt] at HMT
  by_cases h17 : 16 < at'.length
  · rw [if_pos h17]
    have i4 : (16 : Int) < (at'.length : Int) := by omega
    go_enter Tryz.func10, Tryz.ntmps10
    go_wp2_with (go_at_call 40; (with_reducible refine (HMT.out _).mono ?_); rintro e w1 ⟨rfl, x1, rfl⟩)
    go_ret
    exact ⟨rfl, (by repeat (with_reducible first | assumption | exact grA | apply grB | apply grC | apply grD | refine grE ?_ (by omega) _ | refine grF ?_ (by omega) _ _))⟩
  rw [if_neg h17]
  have i4 : ¬ (16 : Int) < (at'.length : Int) := by omega
  clear hnt
  generalize hR : (if atErr none at' ≠ 0 then atErr none at' else if boxB ty nm.data.toList q1 q2 q3 q4 = false then (8 : Int) else 0) = R
  have HR := Lib.hid hR
  clear hR
  go_enter Tryz.func10, Tryz.ntmps10
  go_upto_region 8 with (go_at_call 40; (with_reducible refine (HMT.out _).mono ?_); rintro e w1 ⟨rfl, x1, rfl⟩)
  refine abs_rows (w := w) (G := fun W => Code.wp _ _ _ _ W) (by repeat (with_reducible first | assumption | exact grA | apply grB | apply grC | apply grD | refine grE ?_ (by omega) _ | refine grF ?_ (by omega) _ _)) [(w.heap.size, .cells #[.int .i64 id, .int .i64 p, .string tag, .slice ka ks.length kc, .slice aa at'.length ac, .int .i64 ty, .string nm, .int .i64 q1, .int .i64 q2, .int .i64 q3, .int .i64 q4] 49)] (by simp [go_sem, *]) ?_
  intro w2 gw2 hl
  simp only [List.forall_mem_cons, List.not_mem_nil, false_implies, implies_true, and_true] at hl
  have hr1 := hl
  have zhr1 := row_sz' hr1
  have hw2 := gw2
  have z1 := zhr1
  clear zhr1
  generalize w.heap.size = n0 at *
  go_loopg [35] at'.length (fun gn v35 wj => ∃ i : Nat, Hid (gn + i = at'.length ∧ i ≤ at'.length) ∧ v35 = .int .i64 i ∧ w2.grows wj ∧ Hid (atErr none at' = atErr (prevA at' i) (at'.drop i)))
  case atStart => exact ⟨0, Lib.hid ⟨by simp, Nat.zero_le _⟩, by go_num, (by repeat (with_reducible first | assumption | exact grA | apply grB | apply grC | apply grD | refine grE ?_ (by omega) _ | refine grF ?_ (by omega) _ _)), Lib.hid rfl⟩
  case round =>
    obtain ⟨i, HQ, rfl, hgj, HA⟩ := hrel
    obtain ⟨j1, j2⟩ := HQ.out
    have q1' : wr.row n0 = _ := (hgj.row_eq z1.1).trans hr1
    have y1 := row_sz' q1'
    have hwr := hw2.trans hgj
    by_cases hlt : i < at'.length
    · have k1 : (i : Int) < (at'.length : Int) := by omega
      rcases A1.out with h0 | ⟨p1, o1, rfl, e1⟩
      · rw [h0] at hlt; simp at hlt
      have hgt := List.getElem?_eq_getElem hlt
      have k2 := ((e1 i _ hgt).grows hw2).grows hgj
      have hmem := List.getElem_mem hlt
      have hN := HMN.out _ hmem
      have hst := atErr_at (p := prevA at' i) hgt
      have z3 := lt_sz k2.lt
      have hnx : prevA at' (i + 1) = some at'[i].1 := by show at'[i]?.map (·.1) = _; rw [hgt]; rfl
      have HE1 := Lib.hid (fun (j : Nat) (y : ByteArray × ByteArray) (hy : at'[j]? = some y) => ((e1 j y hy).grows hw2).grows hgj)
      clear e1
      generalize at'[i] = x at *
      obtain ⟨u1, u2⟩ := k2
      rw [show [Value.string x.1, Value.string x.2].length = 2 from rfl] at u1 u2
      cases hxn : nameB x.1.data.toList with
      | false =>
        rw [hxn, Bool.false_and, if_pos rfl] at hst
        rw [hxn] at hN
        have HN := Lib.hid hN
        have HANS := Lib.hid (show R = 10 by rw [← HR.out, HA.out, hst, if_pos (by decide)])
        clear hst hN hgt hxn
        go_upto_region 10 with fail
        refine wp_region_plus_lit (by kernel_rfl) (by kernel_rfl) ?_
        repeat (go_big_quiet_step ((go_at_call 40; (with_reducible exact Calls.plus_of (HN.out _)))))
        (refine wpQuiet_nil ?_; intro _ hw'; obtain ⟨xq, hw''⟩ := hw'; subst hw'')
        go_wp2_with fail
        go_ret
        exact ⟨by rw [HANS.out]; rfl, (by repeat (with_reducible first | assumption | exact grA | apply grB | apply grC | apply grD | refine grE ?_ (by omega) _ | refine grF ?_ (by omega) _ _))⟩
      | true =>
        rw [hxn, Bool.true_and] at hst
        rw [hxn] at hN
        have HN := Lib.hid hN
        clear hN hxn
        have hsz : (x.2.size : Int) = (x.2.size : Int) := rfl
        rcases Nat.eq_zero_or_pos i with hi0 | hi0
        · subst hi0
          rw [show prevA at' 0 = none from rfl, show lateA none x.1 = false from rfl, if_neg (by simp)] at hst
          rw [Nat.zero_mul, Nat.add_zero] at u1 u2
          clear hgt
          by_cases h6 : 256 < x.2.size
          · have i6 : (256 : Int) < (x.2.size : Int) := by omega
            rw [if_pos h6] at hst
            have HANS := Lib.hid (show R = 2 by rw [← HR.out, HA.out, show prevA at' 0 = none from rfl, hst, if_pos (by decide)])
            clear hst
            go_upto_region 10 with fail
            refine wp_region_plus_lit (by kernel_rfl) (by kernel_rfl) ?_
            repeat (go_big_quiet_step ((go_at_call 40; (with_reducible exact Calls.plus_of (HN.out _)))))
            (refine wpQuiet_nil ?_; intro _ hw'; obtain ⟨xq, hw''⟩ := hw'; subst hw'')
            go_wp2_with fail
            go_ret
            exact ⟨by rw [HANS.out]; rfl, (by repeat (with_reducible first | assumption | exact grA | apply grB | apply grC | apply grD | refine grE ?_ (by omega) _ | refine grF ?_ (by omega) _ _))⟩
          · have i6 : ¬ (256 : Int) < (x.2.size : Int) := by omega
            rw [if_neg h6] at hst
            have HA2 := Lib.hid (show atErr none at' = atErr (prevA at' (0 + 1)) (at'.drop (0 + 1)) by rw [HA.out, hnx]; exact hst)
            clear hst
            go_upto_region 10 with fail
            refine wp_region_plus_lit (by kernel_rfl) (by kernel_rfl) ?_
            repeat (go_big_quiet_step ((go_at_call 40; (with_reducible exact Calls.plus_of (HN.out _)))))
            (refine wpQuiet_nil ?_; intro _ hw'; obtain ⟨xq, hw''⟩ := hw'; subst hw'')
            go_wp2_with fail
            go_roundg (at'.length - 1)
            case measure => omega
            case rel => exact ⟨1, Lib.hid ⟨by omega, by omega⟩, by go_num, (by repeat (with_reducible first | assumption | exact grA | apply grB | apply grC | apply grD | refine grE ?_ (by omega) _ | refine grF ?_ (by omega) _ _)), HA2⟩
        · have k4 : (0 : Int) < (i : Int) := by omega
          obtain ⟨j, rfl⟩ : ∃ j, i = j + 1 := ⟨i - 1, by omega⟩
          have hgt2 : at'[j]? = some (at'[j]'(by omega)) := List.getElem?_eq_getElem _
          have k3 := HE1.out j _ hgt2
          have hpv : prevA at' (j + 1) = some (at'[j]'(by omega)).1 := by show at'[j]?.map (·.1) = _; rw [hgt2]; rfl
          generalize at'[j]'(by omega) = y at *
          have z4 := lt_sz k3.lt
          have c3 := k3.cell (j := 0) rfl
          rw [World.cell?_row, Nat.add_zero] at c3
          rw [hpv] at hst
          clear k3 hgt hgt2
          cases hla : lateA (some y.1) x.1 with
          | true =>
            rw [hla, if_pos (show (!true) = false from rfl)] at hst
            have HANS := Lib.hid (show R = 10 by rw [← HR.out, HA.out, hpv, hst, if_pos (by decide)])
            clear hst
            rcases late_cases hla with hb1 | ⟨hb1, hb2⟩
            · clear hla
              go_upto_region 10 with fail
              refine wp_region_plus_lit (by kernel_rfl) (by kernel_rfl) ?_
              repeat (go_big_quiet_step ((go_at_call 40; (with_reducible exact Calls.plus_of (HN.out _)))))
              (refine wpQuiet_nil ?_; intro _ hw'; obtain ⟨xq, hw''⟩ := hw'; subst hw'')
              go_wp2_with fail
              go_ret
              exact ⟨by rw [HANS.out]; rfl, (by repeat (with_reducible first | assumption | exact grA | apply grB | apply grC | apply grD | refine grE ?_ (by omega) _ | refine grF ?_ (by omega) _ _))⟩
            · have hb3 : x.1.toList = y.1.toList := by simpa using hb2
              rw [hb3] at hb1
              clear hla hb2
              go_upto_region 10 with fail
              refine wp_region_plus_lit (by kernel_rfl) (by kernel_rfl) ?_
              repeat (go_big_quiet_step ((go_at_call 40; (with_reducible exact Calls.plus_of (HN.out _)))))
              (refine wpQuiet_nil ?_; intro _ hw'; obtain ⟨xq, hw''⟩ := hw'; subst hw'')
              go_wp2_with fail
              go_ret
              exact ⟨by rw [HANS.out]; rfl, (by repeat (with_reducible first | assumption | exact grA | apply grB | apply grC | apply grD | refine grE ?_ (by omega) _ | refine grF ?_ (by omega) _ _))⟩
          | false =>
            rw [hla, if_neg (by simp)] at hst
            obtain ⟨hb1, hb2⟩ := late_not hla
            have hb3 : ¬ x.1.toList = y.1.toList := by simpa using hb2
            clear hla
            by_cases h6 : 256 < x.2.size
            · have i6 : (256 : Int) < (x.2.size : Int) := by omega
              rw [if_pos h6] at hst
              have HANS := Lib.hid (show R = 2 by rw [← HR.out, HA.out, hpv, hst, if_pos (by decide)])
              clear hst
              go_upto_region 10 with fail
              refine wp_region_plus_lit (by kernel_rfl) (by kernel_rfl) ?_
              repeat (go_big_quiet_step ((go_at_call 40; (with_reducible exact Calls.plus_of (HN.out _)))))
              (refine wpQuiet_nil ?_; intro _ hw'; obtain ⟨xq, hw''⟩ := hw'; subst hw'')
              go_wp2_with fail
              go_ret
              exact ⟨by rw [HANS.out]; rfl, (by repeat (with_reducible first | assumption | exact grA | apply grB | apply grC | apply grD | refine grE ?_ (by omega) _ | refine grF ?_ (by omega) _ _))⟩
            · have i6 : ¬ (256 : Int) < (x.2.size : Int) := by omega
              rw [if_neg h6] at hst
              have HA2 := Lib.hid (show atErr none at' = atErr (prevA at' (j + 1 + 1)) (at'.drop (j + 1 + 1)) by rw [HA.out, hpv, hnx]; exact hst)
              clear hst
              go_upto_region 10 with fail
              refine wp_region_plus_lit (by kernel_rfl) (by kernel_rfl) ?_
              repeat (go_big_quiet_step ((go_at_call 40; (with_reducible exact Calls.plus_of (HN.out _)))))
              (refine wpQuiet_nil ?_; intro _ hw'; obtain ⟨xq, hw''⟩ := hw'; subst hw'')
              go_wp2_with fail
              go_roundg (at'.length - (j + 1 + 1))
              case measure => omega
              case rel => exact ⟨j + 1 + 1, Lib.hid ⟨by omega, by omega⟩, by go_num, (by repeat (with_reducible first | assumption | exact grA | apply grB | apply grC | apply grD | refine grE ?_ (by omega) _ | refine grF ?_ (by omega) _ _)), HA2⟩
    · have k1 : ¬ (i : Int) < (at'.length : Int) := by omega
      have hat0 : atErr none at' = 0 := by rw [HA.out, List.drop_eq_nil_of_le (by omega)]; cases prevA at' i <;> rfl
      have HANS := Lib.hid (show R = if boxB ty nm.data.toList q1 q2 q3 q4 = false then (8 : Int) else 0 by rw [← HR.out, hat0, if_neg (by simp)])
      cases hbx : boxB ty nm.data.toList q1 q2 q3 q4
      all_goals
        rw [hbx] at HMB HANS
        go_wp2_with (go_at_call 41; (with_reducible refine (HMB.out _).mono ?_); rintro e w1 ⟨rfl, x1, rfl⟩)
        go_ret
        exact ⟨by rw [HANS.out]; rfl, (by repeat (with_reducible first | assumption | exact grA | apply grB | apply grC | apply grD | refine grE ?_ (by omega) _ | refine grF ?_ (by omega) _ _))⟩
end Go.Proofs.YtdbddnkjiehaiaaGreat

/- WALKS over dom and jalousieref8: copied, Clone: of an element with lists of any length that memory holds. -/
namespace Go.Proofs.YtdbddnkjiehaiaaGreat
open Go.Maps Go.RowKit Go.Sort
set_option maxRecDepth 100000 in
set_option maxHeartbeats 4000000 in
theorem domCopiedG_any (w : World) (e : El) (ka aa : Option Addr) (kc ac : Nat) (hk : IntsAt w (.slice ka e.ks.length kc) e.ks) (ha : SlAt w (fun _ => True) 2 AtR (.slice aa e.at'.length ac) e.at') (h1 : e.ks.length ≤ 1048576) (h2 : e.at'.length ≤ 1048576) :
    Calls Tryz.prog 11 #[.agg #[.int .i64 e.id, .int .i64 e.p, .string e.tag, .slice ka e.ks.length kc, .slice aa e.at'.length ac, .int .i64 e.bx.ty, .string e.bx.nm, .int .i64 e.bx.a, .int .i64 e.bx.b, .int .i64 e.bx.c, .int .i64 e.bx.d]] w fun r w' => ∃ (ka' aa' : Option Addr) (kc' ac' : Nat), r = .returned (.agg #[.int .i64 e.id, .int .i64 e.p, .string e.tag, .slice ka' e.ks.length kc', .slice aa' e.at'.length ac', .int .i64 e.bx.ty, .string e.bx.nm, .int .i64 e.bx.a, .int .i64 e.bx.b, .int .i64 e.bx.c, .int .i64 e.bx.d]) ∧ w.grows w' ∧
      w'.ownsRow w.heap.size 3 1 (.slice ka' e.ks.length kc') e.ks.length (e.ks.map (Value.int .i64)) ∧ w'.ownsRow w.heap.size 71 2 (.slice aa' e.at'.length ac') e.at'.length (atC e.at') := by
  have HK := Lib.hid hk; have HA := Lib.hid ha
  clear hk ha
  obtain ⟨id, p, tag, ks, at', ty, nm, a, b, c, d⟩ := e
  simp only at *
  go_enter Tryz.func11, Tryz.ntmps11
  go_upto_region 1 with fail
  go_wp2_with (first
    | ((at_builtin; refine wpList_appS w (w.heap.size + 2) rfl (.const (.slice none 0 0)) (.tmp 8) _ rfl 71 (.agg #[.string ByteArray.empty, .string ByteArray.empty]) 2 32 Tryz.underlying47 (by kernel_rfl) rfl (by omega) (by omega) _ 0 _ rfl (World.ownsRow_nil _ _ _ _) _ at'.length _ (atC at') rfl (at_news (HA.out.grows (World.grows.refl (w := w)) fun _ _ _ h => h)).1 (at_news (HA.out.grows (by repeat (with_reducible first | assumption | exact grA | apply grB | apply grC | apply grD | refine grE ?_ (by omega) _ | refine grF ?_ (by omega) _ _)) fun _ _ _ h => h)).2 (at_one _) (by omega) (by repeat (with_reducible first | assumption | exact grA | apply grB | apply grC | apply grD | refine grE ?_ (by omega) _ | refine grF ?_ (by omega) _ _)) (by omega) (by simp <;> omega) ?_; intro v' w' hg' HO' HR' HG' HA'); obtain ⟨a2, c2, rfl⟩ := own_slice HO'.out; have q3 : w'.row w.heap.size = some (.cells #[.int .i64 id, .int .i64 p, .string tag, .slice a1 (0 + ks.length) c1, .slice aa at'.length ac, .int .i64 ty, .string nm, .int .i64 a, .int .i64 b, .int .i64 c, .int .i64 d] 49) := (HR'.out _ (by omega)).trans (by simp [go_sem, q1, z1]); have q4 : w'.row (w.heap.size + 1) = some (.cells #[.int .i64 0, .int .i64 0, .string { data := #[] }, .slice none 0 0, .slice none 0 0, .int .i64 0, .string { data := #[] }, .int .i64 0, .int .i64 0, .int .i64 0, .int .i64 0] 49) := (HR'.out _ (by omega)).trans (by simp [go_sem, q2, z2]); have z3 := row_sz' q3; have z4 := row_sz' q4)
    | ((at_builtin; refine wpList_appS w (w.heap.size + 2) rfl (.const (.slice none 0 0)) (.tmp 4) _ rfl 3 (.int .i64 0) 1 8 Tryz.underlying46 (by kernel_rfl) rfl (by omega) (by omega) _ 0 _ rfl (World.ownsRow_nil _ _ _ _) _ ks.length _ (ks.map (Value.int .i64)) rfl (by simp) (int_news (HK.out.grow (by repeat (with_reducible first | assumption | exact grA | apply grB | apply grC | apply grD | refine grE ?_ (by omega) _ | refine grF ?_ (by omega) _ _)))).2 (int_one _) (by omega) (by repeat (with_reducible first | assumption | exact grA | apply grB | apply grC | apply grD | refine grE ?_ (by omega) _ | refine grF ?_ (by omega) _ _)) (by omega) (by simp <;> omega) ?_; intro v' w' hg' HO' HR' HG' HA'); obtain ⟨a1, c1, rfl⟩ := own_slice HO'.out; have q1 : w'.row w.heap.size = some (.cells #[.int .i64 id, .int .i64 p, .string tag, .slice ka ks.length kc, .slice aa at'.length ac, .int .i64 ty, .string nm, .int .i64 a, .int .i64 b, .int .i64 c, .int .i64 d] 49) := (HR'.out _ (by omega)).trans (by simp [go_sem]); have q2 : w'.row (w.heap.size + 1) = some (.cells #[.int .i64 0, .int .i64 0, .string { data := #[] }, .slice none 0 0, .slice none 0 0, .int .i64 0, .string { data := #[] }, .int .i64 0, .int .i64 0, .int .i64 0, .int .i64 0] 49) := (HR'.out _ (by omega)).trans (by simp [go_sem]); have z1 := row_sz' q1; have z2 := row_sz' q2; have HO1 := HO'; have hg1 := hg'; clear HO' HR' HG' HA' hg'; generalize w' = wA at *)
    | ((with_reducible show bodyPost _ _ _ _ _ _); refine ret_49 rfl rfl (by simp [go_sem, q3, q4, z3, z4]) rfl ?_))
  refine ⟨a1, a2, c1, c2, by simp [go_sem, q3, q4, z3, z4], (by repeat (with_reducible first | assumption | exact grA | apply grB | apply grC | apply grD | refine grE ?_ (by omega) _ | refine grF ?_ (by omega) _ _)), ?_, ?_⟩
  · have h := World.ownsRow.mono_base (B := w.heap.size) (by omega) HO1.out
    rw [Nat.zero_add, List.nil_append] at h
    refine ownsRow_row h fun g hg => ?_
    have hl := HO1.out.lt g (by rw [Nat.zero_add]; exact hg)
    rw [World.row_setRow, if_neg (by omega), World.row_setCell, if_neg (by omega)]
    refine (World.row_grow HG'.out (by simp; omega) (fun h => nomatch (show some g = none from h))).trans ?_
    rw [World.row_setCell, if_neg (by omega)]
  · have h := World.ownsRow.mono_base (B := w.heap.size) (by omega) HO'.out
    rw [Nat.zero_add, List.nil_append] at h
    refine ownsRow_row h fun g hg => ?_
    have hl := HO'.out.lt g (by rw [Nat.zero_add]; exact hg)
    rw [World.row_setRow, if_neg (by omega), World.row_setCell, if_neg (by omega)]

set_option maxRecDepth 100000 in
set_option maxHeartbeats 4000000 in
theorem refCloneG_any (w : World) (e : El) (ka aa : Option Addr) (kc ac : Nat) (hk : IntsAt w (.slice ka e.ks.length kc) e.ks) (ha : SlAt w (fun _ => True) 2 AtR (.slice aa e.at'.length ac) e.at') (h1 : e.ks.length ≤ 1048576) (h2 : e.at'.length ≤ 1048576) :
    Calls Tryz.prog 17 #[.agg #[.int .i64 e.id, .int .i64 e.p, .string e.tag, .slice ka e.ks.length kc, .slice aa e.at'.length ac, .int .i64 e.bx.ty, .string e.bx.nm, .int .i64 e.bx.a, .int .i64 e.bx.b, .int .i64 e.bx.c, .int .i64 e.bx.d]] w fun r w' => ∃ (ka' aa' : Option Addr) (kc' ac' : Nat), r = .returned (.agg #[.int .i64 e.id, .int .i64 e.p, .string e.tag, .slice ka' e.ks.length kc', .slice aa' e.at'.length ac', .int .i64 e.bx.ty, .string e.bx.nm, .int .i64 e.bx.a, .int .i64 e.bx.b, .int .i64 e.bx.c, .int .i64 e.bx.d]) ∧ w.grows w' ∧
      w'.ownsRow w.heap.size 3 1 (.slice ka' e.ks.length kc') e.ks.length (e.ks.map (Value.int .i64)) ∧ w'.ownsRow w.heap.size 71 2 (.slice aa' e.at'.length ac') e.at'.length (atC e.at') := by
  have HK := Lib.hid hk; have HA := Lib.hid ha
  clear hk ha
  obtain ⟨id, p, tag, ks, at', ty, nm, a, b, c, d⟩ := e
  simp only at *
  go_enter Tryz.func17, Tryz.ntmps17
  go_upto_region 1 with fail
  go_wp2_with (first
    | ((at_builtin; refine wpList_appS w (w.heap.size + 2) rfl (.const (.slice none 0 0)) (.tmp 8) _ rfl 71 (.agg #[.string ByteArray.empty, .string ByteArray.empty]) 2 32 Tryz.underlying47 (by kernel_rfl) rfl (by omega) (by omega) _ 0 _ rfl (World.ownsRow_nil _ _ _ _) _ at'.length _ (atC at') rfl (at_news (HA.out.grows (World.grows.refl (w := w)) fun _ _ _ h => h)).1 (at_news (HA.out.grows (by repeat (with_reducible first | assumption | exact grA | apply grB | apply grC | apply grD | refine grE ?_ (by omega) _ | refine grF ?_ (by omega) _ _)) fun _ _ _ h => h)).2 (at_one _) (by omega) (by repeat (with_reducible first | assumption | exact grA | apply grB | apply grC | apply grD | refine grE ?_ (by omega) _ | refine grF ?_ (by omega) _ _)) (by omega) (by simp <;> omega) ?_; intro v' w' hg' HO' HR' HG' HA'); obtain ⟨a2, c2, rfl⟩ := own_slice HO'.out; have q3 : w'.row w.heap.size = some (.cells #[.int .i64 id, .int .i64 p, .string tag, .slice a1 (0 + ks.length) c1, .slice aa at'.length ac, .int .i64 ty, .string nm, .int .i64 a, .int .i64 b, .int .i64 c, .int .i64 d] 49) := (HR'.out _ (by omega)).trans (by simp [go_sem, q1, z1]); have q4 : w'.row (w.heap.size + 1) = some (.cells #[.int .i64 0, .int .i64 0, .string { data := #[] }, .slice none 0 0, .slice none 0 0, .int .i64 0, .string { data := #[] }, .int .i64 0, .int .i64 0, .int .i64 0, .int .i64 0] 49) := (HR'.out _ (by omega)).trans (by simp [go_sem, q2, z2]); have z3 := row_sz' q3; have z4 := row_sz' q4)
    | ((at_builtin; refine wpList_appS w (w.heap.size + 2) rfl (.const (.slice none 0 0)) (.tmp 4) _ rfl 3 (.int .i64 0) 1 8 Tryz.underlying46 (by kernel_rfl) rfl (by omega) (by omega) _ 0 _ rfl (World.ownsRow_nil _ _ _ _) _ ks.length _ (ks.map (Value.int .i64)) rfl (by simp) (int_news (HK.out.grow (by repeat (with_reducible first | assumption | exact grA | apply grB | apply grC | apply grD | refine grE ?_ (by omega) _ | refine grF ?_ (by omega) _ _)))).2 (int_one _) (by omega) (by repeat (with_reducible first | assumption | exact grA | apply grB | apply grC | apply grD | refine grE ?_ (by omega) _ | refine grF ?_ (by omega) _ _)) (by omega) (by simp <;> omega) ?_; intro v' w' hg' HO' HR' HG' HA'); obtain ⟨a1, c1, rfl⟩ := own_slice HO'.out; have q1 : w'.row w.heap.size = some (.cells #[.int .i64 id, .int .i64 p, .string tag, .slice ka ks.length kc, .slice aa at'.length ac, .int .i64 ty, .string nm, .int .i64 a, .int .i64 b, .int .i64 c, .int .i64 d] 49) := (HR'.out _ (by omega)).trans (by simp [go_sem]); have q2 : w'.row (w.heap.size + 1) = some (.cells #[.int .i64 0, .int .i64 0, .string { data := #[] }, .slice none 0 0, .slice none 0 0, .int .i64 0, .string { data := #[] }, .int .i64 0, .int .i64 0, .int .i64 0, .int .i64 0] 49) := (HR'.out _ (by omega)).trans (by simp [go_sem]); have z1 := row_sz' q1; have z2 := row_sz' q2; have HO1 := HO'; have hg1 := hg'; clear HO' HR' HG' HA' hg'; generalize w' = wA at *)
    | ((with_reducible show bodyPost _ _ _ _ _ _); refine ret_49 rfl rfl (by simp [go_sem, q3, q4, z3, z4]) rfl ?_))
  refine ⟨a1, a2, c1, c2, by simp [go_sem, q3, q4, z3, z4], (by repeat (with_reducible first | assumption | exact grA | apply grB | apply grC | apply grD | refine grE ?_ (by omega) _ | refine grF ?_ (by omega) _ _)), ?_, ?_⟩
  · have h := World.ownsRow.mono_base (B := w.heap.size) (by omega) HO1.out
    rw [Nat.zero_add, List.nil_append] at h
    refine ownsRow_row h fun g hg => ?_
    have hl := HO1.out.lt g (by rw [Nat.zero_add]; exact hg)
    rw [World.row_setRow, if_neg (by omega), World.row_setCell, if_neg (by omega)]
    refine (World.row_grow HG'.out (by simp; omega) (fun h => nomatch (show some g = none from h))).trans ?_
    rw [World.row_setCell, if_neg (by omega)]
  · have h := World.ownsRow.mono_base (B := w.heap.size) (by omega) HO'.out
    rw [Nat.zero_add, List.nil_append] at h
    refine ownsRow_row h fun g hg => ?_
    have hl := HO'.out.lt g (by rw [Nat.zero_add]; exact hg)
    rw [World.row_setRow, if_neg (by omega), World.row_setCell, if_neg (by omega)]
end Go.Proofs.YtdbddnkjiehaiaaGreat

/- Texts of the walk, one after the other; what each proves stands ahead of it. -/
import Derived.Lib.Bytealg
import Derived.Lib.Slices
import Derived.Test.YtdbddnkjiehaiaaGreatCmpP
import Derived.Test.YtdbddnkjiehaiaaGreatMa
set_option linter.unusedSimpArgs false
set_option linter.unusedVariables false
/- PLAIN: trees of elements as rows of elements: edits, what is below one, how deep one stands. No condition; no program. -/
namespace Go
open Go.RowKit
structure Bx where
  ty : Int
  nm : ByteArray
  a : Int
  b : Int
  c : Int
  d : Int
/-- an element -/
structure El where
  id : Int
  p : Int
  tag : ByteArray
  ks : List Int
  at' : List (ByteArray × ByteArray)
  bx : Bx
/-- a tree: its root, the next number, its elements by rising numbers -/
structure Dm where
  root : Int
  next : Int
  els : List El
def plainBx : Bx := ⟨0, ByteArray.empty, 0, 1, 0, 1⟩
def findE (l : List El) (id : Int) : Option El := l.find? fun e => decide (e.id = id)
def Dm.at (M : Dm) (id : Int) : Option El := findE M.els id
def updE (l : List El) (id : Int) (f : El → El) : List El := l.map fun e => if e.id = id then f e else e
/-- how deep an element stands; so many steps at most -/
def Dm.deep (M : Dm) : Nat → Int → Nat
  | 0, _ => 0
  | n + 1, id => if id = M.root then 1 else match M.at id with
    | none => 0
    | some e => M.deep n e.p + 1
/-- an element and all below it, in tree order; so deep at most -/
def Dm.below (M : Dm) : Nat → Int → List Int
  | 0, _ => []
  | n + 1, id => match M.at id with
    | none => []
    | some e => id :: e.ks.flatMap (M.below n)
/-- what holds of a tree: its elements rise, hang below one another, and none is too deep -/
structure Dm.Wf (M : Dm) : Prop where
  up : M.els.Pairwise fun a b => a.id < b.id
  low : ∀ e ∈ M.els, 0 ≤ e.id ∧ e.id < M.next
  nxt : M.next ≤ 1073741825
  few : M.els.length ≤ 256
  rootE : ∃ e ∈ M.els, e.id = M.root ∧ e.p = -1
  kid : ∀ e ∈ M.els, ∀ k ∈ e.ks, ∃ f ∈ M.els, f.id = k ∧ f.p = e.id ∧ k ≠ M.root
  once : ∀ e ∈ M.els, e.ks.Nodup
  dep : ∃ dep : Int → Nat, dep M.root = 1 ∧ (∀ e ∈ M.els, e.id ≠ M.root → dep e.id = dep e.p + 1) ∧ ∀ e ∈ M.els, dep e.id ≤ 32
/-- each hangs below its parent -/
def Dm.Par (M : Dm) : Prop := ∀ e ∈ M.els, e.id ≠ M.root → ∃ f ∈ M.els, f.id = e.p ∧ e.id ∈ f.ks
theorem findE_some {l : List El} {id : Int} {e : El} (h : findE l id = some e) : e ∈ l ∧ e.id = id := by
  unfold findE at h
  exact ⟨List.mem_of_find?_eq_some h, by simpa using List.find?_some h⟩
theorem findE_none {l : List El} {id : Int} (h : findE l id = none) : ∀ e ∈ l, e.id ≠ id := fun e he => by
  unfold findE at h
  simpa using List.find?_eq_none.1 h e he
theorem ids_inj {l : List El} (h : l.Pairwise fun a b => a.id < b.id) {e f : El} (he : e ∈ l) (hf : f ∈ l) (hid : e.id = f.id) : e = f := by
  obtain ⟨i, hi, rfl⟩ := List.mem_iff_getElem.1 he
  obtain ⟨j, hj, rfl⟩ := List.mem_iff_getElem.1 hf
  have hp := List.pairwise_iff_getElem.1 h
  rcases Nat.lt_trichotomy i j with hij | rfl | hij
  · have := hp i j hi hj hij; omega
  · rfl
  · have := hp j i hj hi hij; omega
theorem findE_of {l : List El} (h : l.Pairwise fun a b => a.id < b.id) {e : El} (he : e ∈ l) : findE l e.id = some e := by
  cases hf : findE l e.id with
  | none => exact (findE_none hf e he rfl).elim
  | some f => obtain ⟨h1, h2⟩ := findE_some hf; rw [ids_inj h h1 he h2]
theorem Dm.Wf.at_root {M : Dm} (h : M.Wf) : ∃ e, M.at M.root = some e ∧ e.p = -1 := by
  obtain ⟨e, he, h1, h2⟩ := h.rootE
  exact ⟨e, by unfold Dm.at; rw [← h1]; exact findE_of h.up he, h2⟩
/-- depth, by any rank that fits -/
theorem Dm.deep_rank {M : Dm} (h : M.Wf) (hp : M.Par) {dep : Int → Nat} (h1 : dep M.root = 1) (h2 : ∀ e ∈ M.els, e.id ≠ M.root → dep e.id = dep e.p + 1) : ∀ (n : Nat) (e : El), e ∈ M.els → dep e.id ≤ n → M.deep n e.id = dep e.id
  | 0, e, he, hd => by
    by_cases hr : e.id = M.root
    · rw [hr, h1] at hd; omega
    · have := h2 e he hr; omega
  | n + 1, e, he, hd => by
    unfold Dm.deep
    by_cases hr : e.id = M.root
    · rw [if_pos hr, hr, h1]
    · rw [if_neg hr]
      have hat : M.at e.id = some e := findE_of h.up he
      rw [hat]
      obtain ⟨f, hf, h3, _⟩ := hp e he hr
      have h4 := h2 e he hr
      have h5 := Dm.deep_rank h hp h1 h2 n f hf (by rw [h3]; omega)
      rw [h3] at h5
      simp only [h5, h4]
/-- a new element -/
def Dm.ins (M : Dm) (parent at' : Int) (tag : ByteArray) : Int × Int × Dm :=
  match M.at parent with
  | none => (0, 5, M)
  | some e =>
    if at' < 0 ∨ (e.ks.length : Int) < at' then (0, 13, M)
    else if nameB tag.data.toList = false then (0, 10, M)
    else if 256 ≤ M.els.length ∨ 1073741824 < M.next then (0, 6, M)
    else if 32 ≤ M.deep 32 parent then (0, 7, M)
    else (M.next, 0, ⟨M.root, M.next + 1, updE M.els parent (fun e => { e with ks := e.ks.take at'.toNat ++ M.next :: e.ks.drop at'.toNat }) ++ [⟨M.next, parent, tag, [], [], plainBx⟩]⟩)
/-- an element is gone, and all below it -/
def Dm.rem (M : Dm) (id : Int) : Int × Dm :=
  match M.at id with
  | none => (5, M)
  | some e =>
    if id = M.root then (1, M)
    else (0, ⟨M.root, M.next, (updE M.els e.p (fun f => { f with ks := f.ks.filter (fun k => decide (k ≠ id)) })).filter fun f => decide (f.id ∉ M.below 32 id)⟩)
def lessS (a b : ByteArray) : Bool := decide (a.data.toList < b.data.toList)
/-- an attribute put among those by rising names -/
def putA : List (ByteArray × ByteArray) → ByteArray → ByteArray → List (ByteArray × ByteArray)
  | [], n, v => [(n, v)]
  | x :: t, n, v => if lessS x.1 n then x :: putA t n v else if x.1 = n then (n, v) :: t else (n, v) :: x :: t
def Dm.set (M : Dm) (id : Int) (n v : ByteArray) : Int × Dm :=
  match M.at id with
  | none => (5, M)
  | some e =>
    if nameB n.data.toList = false then (10, M)
    else if 256 < v.size then (2, M)
    else if 16 < (putA e.at' n v).length then (6, M)
    else (0, ⟨M.root, M.next, updE M.els id fun e => { e with at' := putA e.at' n v }⟩)
def Dm.unset (M : Dm) (id : Int) (n : ByteArray) : Int × Dm :=
  match M.at id with
  | none => (5, M)
  | some e =>
    if e.at'.all (fun x => decide (x.1 ≠ n)) then (10, M)
    else (0, ⟨M.root, M.next, updE M.els id fun e => { e with at' := e.at'.filter fun x => decide (x.1 ≠ n) }⟩)
def Dm.box (M : Dm) (id : Int) (b : Bx) (ok : Bool) : Int × Dm :=
  match M.at id with
  | none => (5, M)
  | some _ => if ok = false then (8, M) else (0, ⟨M.root, M.next, updE M.els id fun e => { e with bx := b }⟩)
theorem updE_mem {l : List El} {id : Int} {f : El → El} {x : El} : x ∈ updE l id f ↔ ∃ e ∈ l, x = if e.id = id then f e else e := by
  unfold updE
  rw [List.mem_map]
  constructor
  · rintro ⟨e, h1, h2⟩; exact ⟨e, h1, h2.symm⟩
  · rintro ⟨e, h1, h2⟩; exact ⟨e, h1, h2.symm⟩
theorem updE_up {l : List El} {id : Int} {f : El → El} (hf : ∀ e, (f e).id = e.id) (h : l.Pairwise fun a b => a.id < b.id) : (updE l id f).Pairwise fun a b => a.id < b.id := by
  unfold updE
  rw [List.pairwise_map]
  refine h.imp fun {a b} hab => ?_
  have q : ∀ e : El, (if e.id = id then f e else e).id = e.id := fun e => by split; exact hf e; rfl
  rw [q, q]; exact hab
/-- an edit that leaves numbers, parents and kids as they are -/
theorem Dm.Wf.upd {M : Dm} (h : M.Wf) (id : Int) (f : El → El) (h1 : ∀ e, (f e).id = e.id) (h2 : ∀ e, (f e).p = e.p) (h3 : ∀ e, (f e).ks = e.ks) : Dm.Wf ⟨M.root, M.next, updE M.els id f⟩ := by
  have q1 : ∀ e : El, (if e.id = id then f e else e).id = e.id := fun e => by split; exact h1 e; rfl
  have q2 : ∀ e : El, (if e.id = id then f e else e).p = e.p := fun e => by split; exact h2 e; rfl
  have q3 : ∀ e : El, (if e.id = id then f e else e).ks = e.ks := fun e => by split; exact h3 e; rfl
  have mem : ∀ e ∈ M.els, (if e.id = id then f e else e) ∈ updE M.els id f := fun e he => updE_mem.2 ⟨e, he, rfl⟩
  refine ⟨updE_up h1 h.up, ?_, h.nxt, by simpa [updE] using h.few, ?_, ?_, ?_, ?_⟩
  · rintro x hx
    obtain ⟨e, he, rfl⟩ := updE_mem.1 hx
    rw [q1]; exact h.low e he
  · obtain ⟨e, he, e1, e2⟩ := h.rootE
    exact ⟨_, mem e he, by rw [q1]; exact e1, by rw [q2]; exact e2⟩
  · rintro x hx k hk
    obtain ⟨e, he, rfl⟩ := updE_mem.1 hx
    rw [q3] at hk
    obtain ⟨g, hg, e1, e2, e3⟩ := h.kid e he k hk
    exact ⟨_, mem g hg, by rw [q1]; exact e1, by rw [q2, q1]; exact e2, e3⟩
  · rintro x hx
    obtain ⟨e, he, rfl⟩ := updE_mem.1 hx
    rw [q3]; exact h.once e he
  · obtain ⟨dep, d1, d2, d3⟩ := h.dep
    refine ⟨dep, d1, ?_, ?_⟩
    · rintro x hx hr
      obtain ⟨e, he, rfl⟩ := updE_mem.1 hx
      rw [q1] at hr
      rw [q1, q2]; exact d2 e he hr
    · rintro x hx
      obtain ⟨e, he, rfl⟩ := updE_mem.1 hx
      rw [q1]; exact d3 e he
theorem Dm.Par.upd {M : Dm} (h : M.Par) (id : Int) (f : El → El) (h1 : ∀ e, (f e).id = e.id) (h2 : ∀ e, (f e).p = e.p) (h3 : ∀ e, (f e).ks = e.ks) : Dm.Par ⟨M.root, M.next, updE M.els id f⟩ := by
  have q1 : ∀ e : El, (if e.id = id then f e else e).id = e.id := fun e => by split; exact h1 e; rfl
  have q2 : ∀ e : El, (if e.id = id then f e else e).p = e.p := fun e => by split; exact h2 e; rfl
  have q3 : ∀ e : El, (if e.id = id then f e else e).ks = e.ks := fun e => by split; exact h3 e; rfl
  rintro x hx hr
  obtain ⟨e, he, rfl⟩ := updE_mem.1 hx
  rw [q1] at hr
  obtain ⟨g, hg, e1, e2⟩ := h e he hr
  exact ⟨_, updE_mem.2 ⟨g, hg, rfl⟩, by rw [q1, q2]; exact e1, by rw [q1, q3]; exact e2⟩
end Go

/- PLAIN: what is below an element: each once, each an element, so many at most. No condition; no program. -/
namespace Go
open Go.RowKit
/-- an element's parent's number, so often -/
def Dm.upN (M : Dm) : Nat → Int → Int
  | 0, x => x
  | j + 1, x => match M.at (M.upN j x) with
    | none => x
    | some e => e.p
theorem Dm.below_at {M : Dm} (h : M.Wf) {e : El} (he : e ∈ M.els) (n : Nat) : M.below (n + 1) e.id = e.id :: e.ks.flatMap (M.below n) := by
  conv => lhs; unfold Dm.below
  rw [show M.at e.id = some e from findE_of h.up he]
theorem Dm.kid_dep {M : Dm} (h : M.Wf) {dep : Int → Nat} (h2 : ∀ e ∈ M.els, e.id ≠ M.root → dep e.id = dep e.p + 1) {e : El} (he : e ∈ M.els) {k : Int} (hk : k ∈ e.ks) : ∃ f ∈ M.els, f.id = k ∧ f.p = e.id ∧ dep k = dep e.id + 1 := by
  obtain ⟨f, hf, h3, h4, h5⟩ := h.kid e he k hk
  refine ⟨f, hf, h3, h4, ?_⟩
  have := h2 f hf (by rw [h3]; exact h5)
  rw [← h3, this, h4]
theorem Dm.below_fuel {M : Dm} (h : M.Wf) {dep : Int → Nat} (h2 : ∀ e ∈ M.els, e.id ≠ M.root → dep e.id = dep e.p + 1) (h3 : ∀ e ∈ M.els, dep e.id ≤ 32) : ∀ (n : Nat) (e : El), e ∈ M.els → 33 ≤ n + dep e.id → M.below (n + 1) e.id = M.below n e.id
  | 0, e, he, hd => by have := h3 e he; omega
  | n + 1, e, he, hd => by
    rw [Dm.below_at h he, Dm.below_at h he]
    congr 1
    have : ∀ k ∈ e.ks, M.below (n + 1) k = M.below n k := fun k hk => by
      obtain ⟨f, hf, rfl, _, hdk⟩ := Dm.kid_dep h h2 he hk
      exact Dm.below_fuel h h2 h3 n f hf (by omega)
    rw [List.flatMap_def, List.flatMap_def, List.map_congr_left this]
theorem Dm.below_up {M : Dm} (h : M.Wf) {dep : Int → Nat} (h2 : ∀ e ∈ M.els, e.id ≠ M.root → dep e.id = dep e.p + 1) : ∀ (n : Nat) (e : El), e ∈ M.els → ∀ x ∈ M.below n e.id, (∃ f ∈ M.els, f.id = x) ∧ dep e.id ≤ dep x ∧ M.upN (dep x - dep e.id) x = e.id
  | 0, _, _, x, hx => by simp [Dm.below] at hx
  | n + 1, e, he, x, hx => by
    rw [Dm.below_at h he] at hx
    rcases List.mem_cons.1 hx with rfl | hx
    · exact ⟨⟨e, he, rfl⟩, Nat.le_refl _, by rw [Nat.sub_self]; rfl⟩
    · obtain ⟨k, hk, hx⟩ := List.mem_flatMap.1 hx
      obtain ⟨f, hf, rfl, hp, hdk⟩ := Dm.kid_dep h h2 he hk
      obtain ⟨q1, q2, q3⟩ := Dm.below_up h h2 n f hf x hx
      refine ⟨q1, by omega, ?_⟩
      rw [show dep x - dep e.id = (dep x - dep f.id) + 1 by omega]
      unfold Dm.upN
      rw [q3, show M.at f.id = some f from findE_of h.up hf]
      exact hp
theorem Dm.below_once {M : Dm} (h : M.Wf) {dep : Int → Nat} (h2 : ∀ e ∈ M.els, e.id ≠ M.root → dep e.id = dep e.p + 1) : ∀ (n : Nat) (e : El), e ∈ M.els → (M.below n e.id).Nodup
  | 0, _, _ => by simp [Dm.below]
  | n + 1, e, he => by
    rw [Dm.below_at h he, List.nodup_cons]
    refine ⟨fun hm => ?_, ?_⟩
    · obtain ⟨k, hk, hx⟩ := List.mem_flatMap.1 hm
      obtain ⟨f, hf, rfl, hp, hdk⟩ := Dm.kid_dep h h2 he hk
      have := (Dm.below_up h h2 n f hf _ hx).2.1
      omega
    · unfold List.Nodup
      rw [List.pairwise_flatMap]
      refine ⟨fun k hk => ?_, ?_⟩
      · obtain ⟨f, hf, rfl, _, _⟩ := Dm.kid_dep h h2 he hk
        exact Dm.below_once h h2 n f hf
      · refine (h.once e he).imp_of_mem fun {k1 k2} m1 m2 hne x hx y hy hxy => ?_
        subst hxy
        obtain ⟨f1, hf1, rfl, _, d1⟩ := Dm.kid_dep h h2 he m1
        obtain ⟨f2, hf2, rfl, _, d2⟩ := Dm.kid_dep h h2 he m2
        have u1 := (Dm.below_up h h2 n f1 hf1 x hx).2.2
        have u2 := (Dm.below_up h h2 n f2 hf2 x hy).2.2
        rw [d1] at u1; rw [d2] at u2
        exact hne (u1.symm.trans u2)
theorem nodup_len {l m : List Int} (h : l.Nodup) (hs : ∀ x ∈ l, x ∈ m) : l.length ≤ m.length := by
  induction l generalizing m with
  | nil => simp
  | cons a t ih =>
    rw [List.nodup_cons] at h
    have ha := hs a (by simp)
    have := ih (m := m.erase a) h.2 fun x hx => (List.mem_erase_of_ne (fun e => h.1 (by rw [← e]; exact hx))).2 (hs x (by simp [hx]))
    rw [List.length_erase_of_mem ha] at this
    have := List.length_pos_of_mem ha
    simp only [List.length_cons]
    omega
/-- each number below an element once, each an element's: never more than there are elements -/
theorem Dm.below_few {M : Dm} (h : M.Wf) (n : Nat) {e : El} (he : e ∈ M.els) {l : List Int} (hl : l <+: M.below n e.id) : l.length ≤ M.els.length := by
  obtain ⟨dep, _, h2, _⟩ := h.dep
  have h3 := (Dm.below_once h h2 n e he).sublist hl.sublist
  have := nodup_len (m := M.els.map El.id) h3 fun x hx => by
    obtain ⟨f, hf, hfx⟩ := (Dm.below_up h h2 n e he x (hl.subset hx)).1
    exact List.mem_map.2 ⟨f, hf, hfx⟩
  simpa using this
end Go

/- PLAIN: a tree with a new element is a tree. No condition; no program. -/
namespace Go
open Go.RowKit
theorem mem_updE {l : List El} {id : Int} {f : El → El} {x : El} : x ∈ updE l id f ↔ ∃ y ∈ l, (if y.id = id then f y else y) = x := by
  unfold updE; exact List.mem_map
theorem nodup_ins {l : List Int} {a : Int} (h : l.Nodup) (ha : a ∉ l) (n : Nat) : (l.take n ++ a :: l.drop n).Nodup := by
  have h1 : (l.take n ++ l.drop n).Nodup := by rw [List.take_append_drop]; exact h
  have hp : List.Perm (a :: (l.take n ++ l.drop n)) (l.take n ++ a :: l.drop n) := List.perm_middle.symm
  refine hp.nodup_iff.1 ?_
  rw [List.nodup_cons]
  exact ⟨by rw [List.take_append_drop]; exact ha, h1⟩
theorem mem_ins {l : List Int} {a : Int} (n : Nat) {x : Int} : x ∈ l.take n ++ a :: l.drop n ↔ x = a ∨ x ∈ l := by
  have hp : List.Perm (l.take n ++ a :: l.drop n) (a :: (l.take n ++ l.drop n)) := List.perm_middle
  rw [hp.mem_iff, List.take_append_drop, List.mem_cons]
abbrev insE (n : Nat) (k : Int) (e : El) : El := { e with ks := e.ks.take n ++ k :: e.ks.drop n }
theorem Dm.ins_wf {M : Dm} (h : M.Wf) (hp : M.Par) {e : El} (he : e ∈ M.els) (n : Nat) (tag : ByteArray) (few : M.els.length < 256) (nx : M.next ≤ 1073741824) (hd : M.deep 32 e.id < 32) :
    Dm.Wf ⟨M.root, M.next + 1, updE M.els e.id (insE n M.next) ++ [⟨M.next, e.id, tag, [], [], plainBx⟩]⟩ ∧ Dm.Par ⟨M.root, M.next + 1, updE M.els e.id (insE n M.next) ++ [⟨M.next, e.id, tag, [], [], plainBx⟩]⟩ := by
  obtain ⟨dep, d1, d2, d3⟩ := h.dep
  rw [Dm.deep_rank h hp d1 d2 32 e he (d3 e he)] at hd
  have hidg : ∀ y : El, (if y.id = e.id then insE n M.next y else y).id = y.id := fun y => by split <;> rfl
  have hpg : ∀ y : El, (if y.id = e.id then insE n M.next y else y).p = y.p := fun y => by split <;> rfl
  have hksg : ∀ y : El, ∀ k, k ∈ (if y.id = e.id then insE n M.next y else y).ks ↔ (k ∈ y.ks ∨ (y.id = e.id ∧ k = M.next)) := fun y k => by
    split
    · rename_i hy
      show k ∈ y.ks.take n ++ M.next :: y.ks.drop n ↔ _
      rw [mem_ins]; simp [hy, or_comm]
    · rename_i hy; simp [hy]
  have hno : ∀ y ∈ M.els, y.id ≠ M.next := fun y hy => by have := (h.low y hy).2; omega
  have hkn : ∀ y ∈ M.els, M.next ∉ y.ks := fun y hy hk => by
    obtain ⟨f, hf, h3, _⟩ := h.kid y hy _ hk
    exact hno f hf h3
  have hroot : M.root ≠ M.next := by
    obtain ⟨r, hr, h1, _⟩ := h.rootE
    rw [← h1]; exact hno r hr
  have lift : ∀ y ∈ M.els, (if y.id = e.id then insE n M.next y else y) ∈ updE M.els e.id (insE n M.next) ++ [⟨M.next, e.id, tag, [], [], plainBx⟩] := fun y hy => List.mem_append_left _ (mem_updE.2 ⟨y, hy, rfl⟩)
  have hnew : (⟨M.next, e.id, tag, [], [], plainBx⟩ : El) ∈ updE M.els e.id (insE n M.next) ++ [⟨M.next, e.id, tag, [], [], plainBx⟩] := List.mem_append_right _ (by simp)
  have cases' : ∀ x ∈ updE M.els e.id (insE n M.next) ++ [⟨M.next, e.id, tag, [], [], plainBx⟩], (∃ y ∈ M.els, (if y.id = e.id then insE n M.next y else y) = x) ∨ x = ⟨M.next, e.id, tag, [], [], plainBx⟩ := fun x hx => by
    rcases List.mem_append.1 hx with hx | hx
    · exact .inl (mem_updE.1 hx)
    · exact .inr (by simpa using hx)
  refine ⟨⟨?_, ?_, ?_, ?_, ?_, ?_, ?_, ?_⟩, ?_⟩
  · show (updE M.els e.id (insE n M.next) ++ [_]).Pairwise _
    rw [List.pairwise_append]
    refine ⟨?_, by simp, fun x hx y hy => ?_⟩
    · unfold updE
      rw [List.pairwise_map]
      exact h.up.imp fun hab => by rw [hidg, hidg]; exact hab
    · obtain ⟨z, hz, rfl⟩ := mem_updE.1 hx
      simp only [List.mem_singleton] at hy
      subst hy
      rw [hidg]
      exact (h.low z hz).2
  · intro x hx
    rcases cases' x hx with ⟨y, hy, rfl⟩ | rfl
    · rw [hidg]; have := h.low y hy; exact ⟨this.1, by show y.id < M.next + 1; omega⟩
    · have := h.low e he; exact ⟨by show 0 ≤ M.next; omega, by show M.next < M.next + 1; omega⟩
  · show M.next + 1 ≤ _; omega
  · show (updE M.els e.id (insE n M.next) ++ [_]).length ≤ _
    unfold updE; simp; omega
  · obtain ⟨r, hr, h1, h2⟩ := h.rootE
    exact ⟨_, lift r hr, by rw [hidg]; exact h1, by rw [hpg]; exact h2⟩
  · intro x hx k hk
    rcases cases' x hx with ⟨y, hy, rfl⟩ | rfl
    · rw [hidg]
      rcases (hksg y k).1 hk with hk | ⟨h1, rfl⟩
      · obtain ⟨f, hf, h3, h4, h5⟩ := h.kid y hy k hk
        exact ⟨_, lift f hf, by rw [hidg]; exact h3, by rw [hpg]; exact h4, h5⟩
      · exact ⟨_, hnew, rfl, h1.symm, fun hh => hroot hh.symm⟩
    · simp at hk
  · intro x hx
    rcases cases' x hx with ⟨y, hy, rfl⟩ | rfl
    · split
      · exact nodup_ins (h.once y hy) (hkn y hy) n
      · exact h.once y hy
    · exact List.nodup_nil
  · refine ⟨fun k => if k = M.next then dep e.id + 1 else dep k, ?_, ?_, ?_⟩
    · show (if M.root = M.next then _ else _) = 1
      rw [if_neg hroot]; exact d1
    · intro x hx hxr
      rcases cases' x hx with ⟨y, hy, rfl⟩ | rfl
      · rw [hidg] at hxr ⊢
        rw [hpg]
        obtain ⟨f, hf, h3, _⟩ := hp y hy hxr
        have := hno f hf
        rw [h3] at this
        simp only [if_neg (hno y hy), if_neg this]
        exact d2 y hy hxr
      · simp only [if_true, if_neg (hno e he)]
    · intro x hx
      rcases cases' x hx with ⟨y, hy, rfl⟩ | rfl
      · rw [hidg]; simp only [if_neg (hno y hy)]; exact d3 y hy
      · simp only [if_true]; omega
  · intro x hx hxr
    rcases cases' x hx with ⟨y, hy, rfl⟩ | rfl
    · rw [hidg] at hxr ⊢
      obtain ⟨f, hf, h3, h4⟩ := hp y hy hxr
      exact ⟨_, lift f hf, by rw [hidg, hpg]; exact h3, (hksg f _).2 (.inl h4)⟩
    · exact ⟨_, lift e he, by rw [hidg], (hksg e _).2 (.inr ⟨rfl, rfl⟩)⟩
end Go

/- PLAIN: a tree without an element and all below it is a tree. No condition; no program. -/
namespace Go
open Go.RowKit
theorem Dm.below_kids {M : Dm} (h : M.Wf) {dep : Int → Nat} (h2 : ∀ e ∈ M.els, e.id ≠ M.root → dep e.id = dep e.p + 1) (h3 : ∀ e ∈ M.els, dep e.id ≤ 32) : ∀ (n : Nat) (e : El), e ∈ M.els → 33 ≤ n + dep e.id → ∀ f ∈ M.els, f.id ∈ M.below n e.id → ∀ k ∈ f.ks, k ∈ M.below n e.id
  | 0, e, he, hd, _, _, _, _, _ => by have := h3 e he; omega
  | n + 1, e, he, hd, f, hf, hx, k, hk => by
    rw [Dm.below_at h he] at hx ⊢
    rcases List.mem_cons.1 hx with hx | hx
    · obtain rfl := ids_inj h.up hf he hx
      obtain ⟨g, hg, rfl, _, hdk⟩ := Dm.kid_dep h h2 hf hk
      refine List.mem_cons_of_mem _ (List.mem_flatMap.2 ⟨g.id, hk, ?_⟩)
      have := h3 g hg
      obtain ⟨m, rfl⟩ : ∃ m, n = m + 1 := ⟨n - 1, by omega⟩
      rw [Dm.below_at h hg]
      exact List.mem_cons_self
    · obtain ⟨q, hq, hx⟩ := List.mem_flatMap.1 hx
      obtain ⟨g, hg, rfl, _, hdk⟩ := Dm.kid_dep h h2 he hq
      exact List.mem_cons_of_mem _ (List.mem_flatMap.2 ⟨g.id, hq, Dm.below_kids h h2 h3 n g hg (by omega) f hf hx k hk⟩)
theorem Dm.below_par {M : Dm} (h : M.Wf) : ∀ (n : Nat) (e : El), e ∈ M.els → ∀ x ∈ M.below n e.id, x ≠ e.id → ∃ f ∈ M.els, f.id ∈ M.below n e.id ∧ x ∈ f.ks
  | 0, _, _, x, hx, _ => by simp [Dm.below] at hx
  | n + 1, e, he, x, hx, hne => by
    rw [Dm.below_at h he] at hx ⊢
    rcases List.mem_cons.1 hx with hx | hx
    · exact absurd hx hne
    · obtain ⟨k, hk, hx⟩ := List.mem_flatMap.1 hx
      obtain ⟨g, hg, rfl, _⟩ := h.kid e he k hk
      by_cases hxk : x = g.id
      · exact ⟨e, he, List.mem_cons_self, by rw [hxk]; exact hk⟩
      · obtain ⟨f, hf, h4, h5⟩ := Dm.below_par h n g hg x hx hxk
        exact ⟨f, hf, List.mem_cons_of_mem _ (List.mem_flatMap.2 ⟨_, hk, h4⟩), h5⟩
abbrev remE (k : Int) (e : El) : El := { e with ks := e.ks.filter fun x => decide (x ≠ k) }
theorem Dm.rem_wf {M : Dm} (h : M.Wf) (hp : M.Par) {e : El} (he : e ∈ M.els) (hr : e.id ≠ M.root) :
    Dm.Wf ⟨M.root, M.next, (updE M.els e.p (remE e.id)).filter fun f => decide (f.id ∉ M.below 32 e.id)⟩ ∧ Dm.Par ⟨M.root, M.next, (updE M.els e.p (remE e.id)).filter fun f => decide (f.id ∉ M.below 32 e.id)⟩ := by
  obtain ⟨dep, d1, d2, d3⟩ := h.dep
  have pos : ∀ y ∈ M.els, 1 ≤ dep y.id := fun y hy => by
    by_cases q : y.id = M.root
    · rw [q, d1]; exact Nat.le_refl _
    · rw [d2 y hy q]; omega
  have hde : 2 ≤ dep e.id := by
    obtain ⟨f, hf, h1, _⟩ := hp e he hr
    have := pos f hf
    rw [d2 e he hr, ← h1]; omega
  have hrb : M.root ∉ M.below 32 e.id := fun hm => by
    have := (Dm.below_up h d2 32 e he _ hm).2.1
    omega
  have hidg : ∀ y : El, (if y.id = e.p then remE e.id y else y).id = y.id := fun y => by split <;> rfl
  have hpg : ∀ y : El, (if y.id = e.p then remE e.id y else y).p = y.p := fun y => by split <;> rfl
  have hksg : ∀ y : El, ∀ k, k ∈ (if y.id = e.p then remE e.id y else y).ks ↔ (k ∈ y.ks ∧ (y.id = e.p → k ≠ e.id)) := fun y k => by
    split
    · rename_i hy
      show k ∈ y.ks.filter _ ↔ _
      rw [List.mem_filter]; simp [hy]
    · rename_i hy; simp [hy]
  have lift : ∀ y ∈ M.els, y.id ∉ M.below 32 e.id → (if y.id = e.p then remE e.id y else y) ∈ (updE M.els e.p (remE e.id)).filter fun f => decide (f.id ∉ M.below 32 e.id) := fun y hy hn => by
    rw [List.mem_filter]
    exact ⟨mem_updE.2 ⟨y, hy, rfl⟩, by rw [hidg]; simpa using hn⟩
  have back : ∀ x ∈ (updE M.els e.p (remE e.id)).filter fun f => decide (f.id ∉ M.below 32 e.id), ∃ y ∈ M.els, y.id ∉ M.below 32 e.id ∧ (if y.id = e.p then remE e.id y else y) = x := fun x hx => by
    rw [List.mem_filter] at hx
    obtain ⟨y, hy, rfl⟩ := mem_updE.1 hx.1
    have := hx.2
    rw [hidg] at this
    exact ⟨y, hy, by simpa using this, rfl⟩
  refine ⟨⟨?_, ?_, ?_, ?_, ?_, ?_, ?_, ?_⟩, ?_⟩
  · refine List.Pairwise.filter _ ?_
    unfold updE
    rw [List.pairwise_map]
    exact h.up.imp fun hab => by rw [hidg, hidg]; exact hab
  · intro x hx
    obtain ⟨y, hy, _, rfl⟩ := back x hx
    rw [hidg]; exact h.low y hy
  · exact h.nxt
  · have h1 := List.length_filter_le (fun f : El => decide (f.id ∉ M.below 32 e.id)) (updE M.els e.p (remE e.id))
    have h2 : (updE M.els e.p (remE e.id)).length = M.els.length := by unfold updE; simp
    have := h.few
    show ((updE M.els e.p (remE e.id)).filter _).length ≤ 256
    omega
  · obtain ⟨r, hr', h1, h2⟩ := h.rootE
    exact ⟨_, lift r hr' (by rw [h1]; exact hrb), by rw [hidg]; exact h1, by rw [hpg]; exact h2⟩
  · intro x hx k hk
    obtain ⟨y, hy, hn, rfl⟩ := back x hx
    rw [hidg]
    obtain ⟨hk, hke⟩ := (hksg y k).1 hk
    obtain ⟨f, hf, h3, h4, h5⟩ := h.kid y hy k hk
    have hkn : f.id ∉ M.below 32 e.id := fun hm => by
      by_cases hfe : f.id = e.id
      · obtain rfl := ids_inj h.up hf he hfe
        exact hke h4.symm h3.symm
      · obtain ⟨g, hg, h6, h7⟩ := Dm.below_par h 32 e he _ hm hfe
        obtain ⟨f', hf', h8, h9, _⟩ := h.kid g hg _ h7
        obtain rfl := ids_inj h.up hf' hf h8
        exact hn (by rw [← h4, h9]; exact h6)
    exact ⟨_, lift f hf hkn, by rw [hidg]; exact h3, by rw [hpg]; exact h4, h5⟩
  · intro x hx
    obtain ⟨y, hy, _, rfl⟩ := back x hx
    split
    · exact (h.once y hy).filter _
    · exact h.once y hy
  · refine ⟨dep, d1, fun x hx hxr => ?_, fun x hx => ?_⟩
    · obtain ⟨y, hy, _, rfl⟩ := back x hx
      rw [hidg] at hxr ⊢
      rw [hpg]
      exact d2 y hy hxr
    · obtain ⟨y, hy, _, rfl⟩ := back x hx
      rw [hidg]; exact d3 y hy
  · intro x hx hxr
    obtain ⟨y, hy, hn, rfl⟩ := back x hx
    rw [hidg] at hxr ⊢
    obtain ⟨f, hf, h3, h4⟩ := hp y hy hxr
    have hfn : f.id ∉ M.below 32 e.id := fun hm => hn (Dm.below_kids h d2 d3 32 e he (by omega) f hf hm _ h4)
    refine ⟨_, lift f hf hfn, by rw [hidg, hpg]; exact h3, (hksg f _).2 ⟨h4, fun _ hh => hn ?_⟩⟩
    rw [hh, show (32 : Nat) = 31 + 1 from rfl, Dm.below_at h he]
    exact List.mem_cons_self
/-- the tree between: the element is off its parent's list, but still there -/
theorem Dm.mid_wf {M : Dm} (h : M.Wf) (q : Int) (k : Int) : Dm.Wf ⟨M.root, M.next, updE M.els q (remE k)⟩ := by
  have hidg : ∀ y : El, (if y.id = q then remE k y else y).id = y.id := fun y => by split <;> rfl
  have hpg : ∀ y : El, (if y.id = q then remE k y else y).p = y.p := fun y => by split <;> rfl
  have hks : ∀ y : El, ∀ x ∈ (if y.id = q then remE k y else y).ks, x ∈ y.ks := fun y x hx => by
    split at hx
    · exact (List.mem_filter.1 hx).1
    · exact hx
  have back : ∀ x ∈ updE M.els q (remE k), ∃ y ∈ M.els, (if y.id = q then remE k y else y) = x := fun x hx => mem_updE.1 hx
  refine ⟨updE_up (fun _ => rfl) h.up, ?_, h.nxt, by simpa [updE] using h.few, ?_, ?_, ?_, ?_⟩
  · intro x hx
    obtain ⟨y, hy, rfl⟩ := back x hx
    rw [hidg]; exact h.low y hy
  · obtain ⟨r, hr', h1, h2⟩ := h.rootE
    exact ⟨_, mem_updE.2 ⟨r, hr', rfl⟩, by rw [hidg]; exact h1, by rw [hpg]; exact h2⟩
  · intro x hx z hz
    obtain ⟨y, hy, rfl⟩ := back x hx
    obtain ⟨f, hf, h3, h4, h5⟩ := h.kid y hy z (hks y z hz)
    exact ⟨_, mem_updE.2 ⟨f, hf, rfl⟩, by rw [hidg]; exact h3, by rw [hpg, hidg]; exact h4, h5⟩
  · intro x hx
    obtain ⟨y, hy, rfl⟩ := back x hx
    split
    · exact (h.once y hy).filter _
    · exact h.once y hy
  · obtain ⟨dep, d1, d2, d3⟩ := h.dep
    refine ⟨dep, d1, fun x hx hxr => ?_, fun x hx => ?_⟩
    · obtain ⟨y, hy, rfl⟩ := back x hx
      rw [hidg] at hxr ⊢
      rw [hpg]
      exact d2 y hy hxr
    · obtain ⟨y, hy, rfl⟩ := back x hx
      rw [hidg]; exact d3 y hy
/-- what is below an element that stands deeper is as it was -/
theorem Dm.below_mid {M : Dm} (h : M.Wf) {dep : Int → Nat} (h2 : ∀ e ∈ M.els, e.id ≠ M.root → dep e.id = dep e.p + 1) (q : Int) (f : El → El) (hf : ∀ e, (f e).id = e.id) : ∀ (n : Nat) (e : El), e ∈ M.els → dep q < dep e.id → Dm.below ⟨M.root, M.next, updE M.els q f⟩ n e.id = M.below n e.id
  | 0, _, _, _ => by simp [Dm.below]
  | n + 1, e, he, hd => by
    have hne : e.id ≠ q := fun e' => by rw [e'] at hd; omega
    have hup : (updE M.els q f).Pairwise fun a b => a.id < b.id := updE_up hf h.up
    have hat : Dm.at ⟨M.root, M.next, updE M.els q f⟩ e.id = some e := findE_of hup (mem_updE.2 ⟨e, he, if_neg hne⟩)
    rw [Dm.below_at h he]
    conv => lhs; unfold Dm.below
    rw [hat]
    simp only
    congr 1
    have : ∀ k ∈ e.ks, Dm.below ⟨M.root, M.next, updE M.els q f⟩ n k = M.below n k := fun k hk => by
      obtain ⟨g, hg, rfl, _, hdk⟩ := Dm.kid_dep h h2 he hk
      exact Dm.below_mid h h2 q f hf n g hg (by omega)
    rw [List.flatMap_def, List.flatMap_def, List.map_congr_left this]
end Go

/- PLAIN: what a removal leaves. No condition; no program. -/
namespace Go
open Go.RowKit
theorem idxFrom_mem : ∀ (zs : List Int) (x : Int) (i : Nat), x ∈ zs → ∃ k : Nat, k < zs.length ∧ Lib.idxFrom zs x i = ((i + k : Nat) : Int) ∧ zs[k]? = some x ∧ ∀ j, j < k → zs[j]? ≠ some x
  | [], x, _, h => by simp at h
  | z :: t, x, i, h => by
    by_cases hz : z = x
    · subst hz
      exact ⟨0, by simp, by simp [Lib.idxFrom], rfl, fun j hj => by omega⟩
    · have hm : x ∈ t := by
        rcases List.mem_cons.1 h with e | e
        · exact absurd e.symm hz
        · exact e
      obtain ⟨k, h1, h2, h3, h4⟩ := idxFrom_mem t x (i + 1) hm
      refine ⟨k + 1, by simp; omega, ?_, by simpa using h3, fun j hj => ?_⟩
      · have hzb : (z == x) = false := by simpa using hz
        simp only [Lib.idxFrom, hzb, Bool.false_eq_true, if_false, h2]
        omega
      · cases j with
        | zero => simpa using hz
        | succ j => simpa using h4 j (by omega)
theorem idxOf_mem {zs : List Int} {x : Int} (h : x ∈ zs) : ∃ k : Nat, k < zs.length ∧ Lib.idxOf zs x = (k : Int) ∧ zs[k]? = some x := by
  obtain ⟨k, h1, h2, h3, _⟩ := idxFrom_mem zs x 0 h
  exact ⟨k, h1, by unfold Lib.idxOf; rw [h2]; simp, h3⟩
theorem filter_at {zs : List Int} {x : Int} (hn : zs.Nodup) {k : Nat} (h : zs[k]? = some x) : (zs.filter fun y => decide (y ≠ x)) = zs.take k ++ zs.drop (k + 1) := by
  induction zs generalizing k with
  | nil => simp at h
  | cons z t ih =>
    rw [List.nodup_cons] at hn
    cases k with
    | zero =>
      obtain rfl : z = x := by simpa using h
      rw [List.filter_cons_of_neg (by simp)]
      have : (t.filter fun y => decide (y ≠ z)) = t := List.filter_eq_self.2 fun y hy => decide_eq_true (fun e => hn.1 (by rw [← e]; exact hy))
      rw [this]; simp
    | succ k =>
      rw [List.getElem?_cons_succ] at h
      have hne : z ≠ x := fun e => hn.1 (by rw [e]; exact List.mem_of_getElem? h)
      rw [List.filter_cons_of_pos (by simp [hne]), ih hn.2 h]
      simp
theorem ids_nodup {l : List El} (h : l.Pairwise fun a b => a.id < b.id) : (l.map El.id).Nodup := by
  unfold List.Nodup
  rw [List.pairwise_map]
  exact h.imp fun hab e => by omega
theorem filter_len {l : List El} (h : l.Pairwise fun a b => a.id < b.id) {B : List Int} (hB : B.Nodup) (hs : ∀ x ∈ B, ∃ f ∈ l, f.id = x) : (l.filter fun f => decide (f.id ∉ B)).length + B.length = l.length := by
  have h1 : (l.filter fun f => decide (f.id ∈ B)).length = B.length := by
    refine Nat.le_antisymm ?_ ?_
    · have := nodup_len (l := (l.filter fun f => decide (f.id ∈ B)).map El.id) (m := B) (ids_nodup (List.Pairwise.filter _ h)) fun x hx => by
        obtain ⟨f, hf, rfl⟩ := List.mem_map.1 hx
        exact of_decide_eq_true (List.mem_filter.1 hf).2
      simpa using this
    · have := nodup_len (l := B) (m := (l.filter fun f => decide (f.id ∈ B)).map El.id) hB fun x hx => by
        obtain ⟨f, hf, rfl⟩ := hs x hx
        exact List.mem_map.2 ⟨f, List.mem_filter.2 ⟨hf, decide_eq_true hx⟩, rfl⟩
      simpa using this
  have h2 : (l.filter fun f => decide (f.id ∉ B)).length + (l.filter fun f => decide (f.id ∈ B)).length = l.length := by
    clear h1 hs h hB
    induction l with
    | nil => rfl
    | cons a t ih =>
      by_cases ha : a.id ∈ B
      · rw [List.filter_cons_of_neg (by simp [ha]), List.filter_cons_of_pos (by simp [ha])]
        simp only [List.length_cons]; omega
      · rw [List.filter_cons_of_pos (by simp [ha]), List.filter_cons_of_neg (by simp [ha])]
        simp only [List.length_cons]; omega
  omega
theorem findE_filter {l : List El} (h : l.Pairwise fun a b => a.id < b.id) (B : List Int) (i : Int) : findE (l.filter fun f => decide (f.id ∉ B)) i = if i ∈ B then none else findE l i := by
  cases hf : findE (l.filter fun f => decide (f.id ∉ B)) i with
  | some x =>
    obtain ⟨h1, rfl⟩ := findE_some hf
    obtain ⟨h2, h3⟩ := List.mem_filter.1 h1
    rw [if_neg (of_decide_eq_true h3), findE_of h h2]
  | none =>
    have hn := findE_none hf
    by_cases hi : i ∈ B
    · rw [if_pos hi]
    · rw [if_neg hi]
      cases hg : findE l i with
      | none => rfl
      | some y =>
        obtain ⟨h1, rfl⟩ := findE_some hg
        exact absurd rfl (hn y (List.mem_filter.2 ⟨h1, decide_eq_true hi⟩))
end Go

/- PLAIN: where a name stands among names that rise. No condition; no program. -/
namespace Go
open Go.RowKit
/-- attributes by rising names -/
def UpA (l : List (ByteArray × ByteArray)) : Prop := l.Pairwise fun a b => a.1.data.toList < b.1.data.toList
def posA (l : List (ByteArray × ByteArray)) (s : ByteArray) : Nat := (l.takeWhile fun x => lessS x.1 s).length
theorem posA_cons (a : ByteArray × ByteArray) (t : List (ByteArray × ByteArray)) (s : ByteArray) : posA (a :: t) s = if lessS a.1 s then posA t s + 1 else 0 := by
  unfold posA
  rw [List.takeWhile_cons]
  split <;> simp
theorem lessS_trans {a b c : ByteArray} (h1 : a.data.toList < b.data.toList) (h2 : b.data.toList < c.data.toList) : a.data.toList < c.data.toList := List.lt_trans h1 h2
/-- whoever is less stands ahead of the place -/
theorem less_pos {l : List (ByteArray × ByteArray)} (h : UpA l) (s : ByteArray) : ∀ (i : Nat) (x : ByteArray × ByteArray), l[i]? = some x → (lessS x.1 s = true ↔ i < posA l s) := by
  induction l with
  | nil => intro i x hx; simp at hx
  | cons a t ih =>
    unfold UpA at h
    rw [List.pairwise_cons] at h
    intro i x hx
    rw [posA_cons]
    cases i with
    | zero =>
      simp only [List.getElem?_cons_zero, Option.some.injEq] at hx
      subst hx
      split <;> simp_all
    | succ i =>
      rw [List.getElem?_cons_succ] at hx
      by_cases ha : lessS a.1 s = true
      · rw [if_pos ha, ih h.2 i x hx]; omega
      · rw [if_neg ha]
        have hax := h.1 x (List.mem_of_getElem? hx)
        refine ⟨fun hxs => absurd ?_ ha, fun hh => by omega⟩
        unfold lessS at hxs ⊢
        exact decide_eq_true (lessS_trans hax (of_decide_eq_true hxs))
theorem posA_le (l : List (ByteArray × ByteArray)) (s : ByteArray) : posA l s ≤ l.length := by
  unfold posA; exact (List.takeWhile_prefix _).length_le
/-- an attribute put: at its place, or over the one there -/
theorem putA_pos (l : List (ByteArray × ByteArray)) (n v : ByteArray) : putA l n v = l.take (posA l n) ++ (n, v) :: (match l[posA l n]? with | some x => if x.1 = n then l.drop (posA l n + 1) else l.drop (posA l n) | none => []) := by
  induction l with
  | nil => simp [putA, posA]
  | cons a t ih =>
    rw [posA_cons]
    unfold putA
    by_cases ha : lessS a.1 n = true
    · rw [if_pos ha, if_pos ha, ih]; simp
    · rw [if_neg ha, if_neg ha]; simp
      split <;> simp_all
end Go

/- PLAIN: strings.Compare's order is the order of lists of bytes. No condition; no program. -/
namespace Go
theorem cmpB_lt : ∀ (a b : List UInt8), Lib.compareBytes a b < 0 ↔ a < b
  | [], [] => by simp [Lib.compareBytes]
  | [], _ :: _ => by simp [Lib.compareBytes]
  | _ :: _, [] => by simp [Lib.compareBytes]
  | x :: s, y :: t => by
    unfold Lib.compareBytes
    rw [List.cons_lt_cons_iff]
    have ih := cmpB_lt s t
    by_cases h1 : x < y
    · simp [h1]
    · by_cases h2 : y < x
      · have h3 : x ≠ y := fun e => by subst e; exact h1 h2
        simp [h1, h2, h3]
      · have h3 : x = y := by
          have q1 : ¬ x.toNat < y.toNat := h1
          have q2 : ¬ y.toNat < x.toNat := h2
          exact UInt8.toNat_inj.1 (by omega)
        subst h3
        simp [ih]
theorem cmpB_eq : ∀ (a b : List UInt8), Lib.compareBytes a b = 0 ↔ a = b
  | [], [] => by simp [Lib.compareBytes]
  | [], _ :: _ => by simp [Lib.compareBytes]
  | _ :: _, [] => by simp [Lib.compareBytes]
  | x :: s, y :: t => by
    unfold Lib.compareBytes
    have ih := cmpB_eq s t
    by_cases h1 : x < y
    · have h3 : x ≠ y := fun e => by subst e; exact absurd h1 (UInt8.lt_irrefl _)
      simp [h1, h3]
    · by_cases h2 : y < x
      · have h3 : x ≠ y := fun e => by subst e; exact h1 h2
        simp [h1, h2, h3]
      · have h3 : x = y := by
          have q1 : ¬ x.toNat < y.toNat := h1
          have q2 : ¬ y.toNat < x.toNat := h2
          exact UInt8.toNat_inj.1 (by omega)
        subst h3
        simp [ih]
end Go

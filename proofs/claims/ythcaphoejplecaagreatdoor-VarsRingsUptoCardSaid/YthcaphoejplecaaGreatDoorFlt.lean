/- REGIONS THAT DRAW THEIR ORDER, BY AN INVARIANT: what holds of what has come up so far is kept by each operation that may come up. A law over any program. No condition. -/
import Derived.Test.YthcaphoejplecaaGreatDoorSeg
import Derived.Test.YthcaphoejplecaaGreatDoorSl
set_option linter.unusedSimpArgs false
set_option linter.unusedVariables false
namespace Go
open Go.RowKit

section
variable {P : Program} {ops : Array Oper}

/-- and i too -/
def upL (L : Nat → Bool) (i : Nat) : Nat → Bool := fun j => j == i || L j
theorem upL_self (L : Nat → Bool) (i : Nat) : upL L i i = true := by simp [upL]
theorem upL_ne (L : Nat → Bool) {i j : Nat} (h : j ≠ i) : upL L i j = L j := by simp [upL, h]
theorem upL_of {L : Nat → Bool} {i j : Nat} (h : L j = true) : upL L i j = true := by simp [upL, h]

theorem ready_nil_all {listed : Array Bool} (hsz : listed.size = ops.size) (hB : headB .any ops ops.size = true) (h : Region.ready .any ops listed = []) : ∀ i, i < ops.size → listed.getD i true = true := by
  intro i
  induction i using Nat.strongRecOn with
  | _ i ih =>
    intro hi
    cases hl : listed.getD i true with
    | true => rfl
    | false =>
      obtain ⟨o, ho, hlt, _⟩ := headB_spec hB hi
      have : i ∈ Region.ready .any ops listed := by
        refine mem_ready.2 ⟨hl, o, ho, fun e he hb => ?_⟩
        have h1 := hlt e he hb
        have h2 := ih e.on h1 (by omega)
        cases h3 : listed.getD e.on false with
        | true => rfl
        | false => rw [getD_in (by rw [hsz]; omega) h3] at h2; cases h2
      rw [h] at this; cases this

theorem allL {listed : Array Bool} (hsz : listed.size = ops.size) (h : ∀ i, i < ops.size → listed.getD i true = true) : (fun i => listed.getD i true) = fun _ => true := by
  funext i
  by_cases hi : i < ops.size
  · exact h i hi
  · have : ¬ i < listed.size := by omega
    simp [this]
theorem setL_up {listed : Array Bool} {i : Nat} (hsz : listed.size = ops.size) (hi : i < ops.size) : (fun j => (listed.setIfInBounds i true).getD j true) = upL (fun j => listed.getD j true) i := by
  funext j
  by_cases hji : j = i
  · subst hji
    have : j < listed.size := by omega
    simp [upL, this]
  · have : i ≠ j := fun e => hji e.symm
    rw [upL_ne _ hji, getD_set_ne true this]

theorem wpAny_of_inv {Q : Exit → Act → World → Prop} (J : (Nat → Bool) → Act → World → Prop) (hB : headB .any ops ops.size = true)
    (hstep : ∀ i, i < ops.size → ∀ L a w, L i = false → (∀ j, Region.waitsFor .any ops i j = true → L j = true) → J L a w → wpOp P ops Q i (J (upL L i)) a w)
    (hend : ∀ a w, J (fun _ => true) a w → Q .normal a w) :
    ∀ (m : Nat) (listed : Array Bool) (a : Act) (w : World), listed.size = ops.size → ((List.range ops.size).filter fun i => !listed.getD i true).length ≤ m → J (fun i => listed.getD i true) a w → wpAny P .any ops Q m listed a w := by
  intro m
  induction m with
  | zero =>
    intro listed a w hsz hm h
    have hall : ∀ i, i < ops.size → listed.getD i true = true := fun i hi => by
      have h0 := List.eq_nil_of_length_eq_zero (Nat.le_zero.1 hm)
      rw [List.filter_eq_nil_iff] at h0
      have := h0 i (List.mem_range.2 hi)
      simpa using this
    refine ⟨?_, hend a w (cast (congrArg (fun L => J L a w) (allL hsz hall)) h)⟩
    cases hr : Region.ready .any ops listed with
    | nil => rfl
    | cons i l =>
      have hi : i ∈ Region.ready .any ops listed := by rw [hr]; exact List.mem_cons_self
      obtain ⟨h1, o, ho, _⟩ := mem_ready.1 hi
      have := hall i (Array.getElem?_eq_some_iff.1 ho).1
      rw [h1] at this; cases this
  | succ m ih =>
    intro listed a w hsz hm h
    refine ⟨fun h0 => ?_, fun i hi => ?_⟩
    · have hall := ready_nil_all hsz hB h0
      exact hend a w (cast (congrArg (fun L => J L a w) (allL hsz hall)) h)
    · obtain ⟨hun, o, ho, hall⟩ := mem_ready.1 hi
      have hin := (Array.getElem?_eq_some_iff.1 ho).1
      refine wpOp_mono (fun a' w' hh => ?_) (hstep i hin (fun i => listed.getD i true) a w hun (fun j hj => ?_) h)
      · refine ih _ a' w' (by simp [hsz]) ?_ (cast (congrArg (fun L => J L a' w') (setL_up hsz hin)).symm hh)
        · have hsub : ((List.range ops.size).filter fun k => !(listed.setIfInBounds i true).getD k true) = ((List.range ops.size).filter fun k => !listed.getD k true).filter (fun k => !(k == i)) := by
            rw [List.filter_filter]
            refine List.filter_congr fun k hk => ?_
            have hk' := List.mem_range.1 hk
            by_cases hki : k = i
            · subst hki
              have : k < listed.size := by rw [hsz]; exact hin
              simp [this]
            · have : i ≠ k := fun e => hki e.symm
              rw [getD_set_ne true this]
              simp [hki]
          rw [hsub]
          have hmem : i ∈ (List.range ops.size).filter fun k => !listed.getD k true := List.mem_filter.2 ⟨List.mem_range.2 hin, by simp [hun]⟩
          have hlt := List.length_filter_lt_length_iff_exists (l := (List.range ops.size).filter fun k => !listed.getD k true) (p := fun k => !(k == i)) |>.2 ⟨i, hmem, by simp⟩
          omega
      · obtain ⟨o', ho', e, he, hb, hon⟩ := Region.waitsFor_spec hj
        have : o' = o := Option.some.inj (ho'.symm.trans ho)
        subst this
        have h2 := hall e he hb
        rw [hon] at h2
        show listed.getD j true = true
        cases h3 : listed.getD j true with
        | true => rfl
        | false => rw [getD_both h3] at h2; cases h2

theorem wp_region_inv {id : Nat} {a : Act} {w : World} {Q : Exit → Act → World → Prop} (hm : P.follows .mixedOrders = true) (J : (Nat → Bool) → Act → World → Prop) (hB : headB .any ops ops.size = true)
    (h0 : J (fun i => decide (ops.size ≤ i)) a w.drew)
    (hstep : ∀ i, i < ops.size → ∀ L a w, L i = false → (∀ j, Region.waitsFor .any ops i j = true → L j = true) → J L a w → wpOp P ops Q i (J (upL L i)) a w)
    (hend : ∀ a w, J (fun _ => true) a w → Q .normal a w) : (Code.region id ops true).wp P Q a w := by
  refine wp_region_any hm (wpAny_of_inv J hB hstep hend ops.size _ a _ (by simp) ?_ (cast (congrArg (fun L => J L a w.drew) ?_) h0))
  · exact Nat.le_trans (List.length_filter_le _ _) (by simp)
  · funext i
    by_cases hi : i < ops.size
    · have : ¬ ops.size ≤ i := by omega
      simp [hi, this]
    · have : ops.size ≤ i := by omega
      simp [hi, this]
/-- each operation of the list, with its number -/
def allOps (G : Nat → Oper → Prop) : Nat → List Oper → Prop
  | _, [] => True
  | k, o :: l => G k o ∧ allOps G (k + 1) l
theorem allOps_get {G : Nat → Oper → Prop} : ∀ (l : List Oper) (k : Nat), allOps G k l → ∀ i o, l[i]? = some o → G (k + i) o
  | [], _, _, i, o, h => by simp at h
  | x :: l, k, hh, 0, o, h => by
    obtain rfl : x = o := by simpa using h
    exact hh.1
  | x :: l, k, hh, i + 1, o, h => by
    have := allOps_get l (k + 1) hh.2 i o (by simpa using h)
    rwa [Nat.add_assoc, Nat.add_comm 1 i] at this
/-- what has come up has behind it all that it waits for -/
def closedL (l : List Oper) (L : Nat → Bool) : Prop := ∀ i j, i < l.length → Region.waitsFor .any l.toArray i j = true → L i = true → L j = true
theorem closedL.up {l : List Oper} {L : Nat → Bool} {i : Nat} (h : closedL l L) (hd : ∀ j, Region.waitsFor .any l.toArray i j = true → L j = true) : closedL l (upL L i) := fun k j hk hw hl => by
  by_cases e : k = i
  · subst e; exact upL_of (hd j hw)
  · rw [upL_ne L e] at hl; exact upL_of (h k j hk hw hl)
/-- what is asked of one operation -/
def invStep (P : Program) (l : List Oper) (J : (Nat → Bool) → Act → World → Prop) (i : Nat) (o : Oper) : Prop :=
  ∀ L a w, L i = false → (∀ j, Region.waitsFor .any l.toArray i j = true → L j = true) → closedL l L → J L a w →
    ∀ K : Act → World → Prop, (∀ a' w', J (upL L i) a' w' → K a' w') → if Region.wanted o (yielded l.toArray a.tmps) then o.chain P a w K else K (a.put o.dst undef) w
theorem wpOp_of_invStep {l : List Oper} {J : (Nat → Bool) → Act → World → Prop} {Q : Exit → Act → World → Prop} {i : Nat} {o : Oper} (hi : l[i]? = some o) (h : invStep P l J i o) {L : Nat → Bool} {a : Act} {w : World}
    (hL : L i = false) (hd : ∀ j, Region.waitsFor .any l.toArray i j = true → L j = true) (hcl : closedL l L) (hJ : J L a w) : wpOp P l.toArray Q i (fun a w => closedL l (upL L i) ∧ J (upL L i) a w) a w := by
  have hi' : l.toArray[i]? = some o := by simpa using hi
  have h1 := h L a w hL hd hcl hJ _ (fun _ _ hh => And.intro (hcl.up hd) hh)
  unfold wpOp
  simp only [hi']
  by_cases hw : Region.wanted o (yielded l.toArray a.tmps) = true
  · rw [if_pos hw] at h1 ⊢
    exact .inl (Oper.wp_of_chain h1)
  · rw [if_neg hw] at h1 ⊢
    exact h1
/-- **THE LAW**, of a region that is written out. -/
theorem wp_region_inv_lit {id : Nat} {a : Act} {w : World} {Q : Exit → Act → World → Prop} {l : List Oper} (hm : P.follows .mixedOrders = true) (hB : headB .any l.toArray l.length = true) (J : Act → World → (Nat → Bool) → Act → World → Prop)
    (h0 : ∀ L : Nat → Bool, (∀ i, i < l.length → L i = false) → J a w.drew L a w.drew)
    (hstep : allOps (invStep P l (J a w.drew)) 0 l)
    (hend : ∀ a' w', J a w.drew (fun _ => true) a' w' → Q .normal a' w') : (Code.region id l.toArray true).wp P Q a w := by
  refine wp_region_inv hm (fun L a' w' => closedL l L ∧ J a w.drew L a' w') (by simpa using hB) ⟨fun i j hi _ hl => ?_, h0 _ fun i hi => ?_⟩ (fun i hi L a' w' hL hd hJ => ?_) fun a' w' h => hend a' w' h.2
  · simp at hl; omega
  · simp; omega
  · have hi' : i < l.length := by simpa using hi
    have := allOps_get l 0 hstep i l[i] (by simp [hi'])
    rw [Nat.zero_add] at this
    exact wpOp_of_invStep (by simp [hi']) this hL hd hJ.1 hJ.2
end
end Go
namespace Go
open Go.RowKit
/-! what is kept as the world grows, and as another block is written -/
section
variable {A X B : Prop} {W W' : World} {g l n p : Nat} {o : Option Obj} {C : Array Value} {T : TypeId}
theorem inv_b (h : A → X ∧ l ≤ g ∧ g < W.heap.size ∧ W.row g = o) (hg : W.grows W') : A → X ∧ l ≤ g ∧ g < W'.heap.size ∧ W'.row g = o :=
  fun a => ⟨(h a).1, (h a).2.1, Nat.lt_of_lt_of_le (h a).2.2.1 hg.below.size, (hg.row_eq (h a).2.2.1).trans (h a).2.2.2⟩
theorem inv_a (h : A → X ∧ l ≤ g ∧ g < W.heap.size ∧ ∃ cs : Array Value, cs.size = n ∧ (B → cs = C) ∧ W.row g = some (.cells cs T)) (hg : W.grows W') : A → X ∧ l ≤ g ∧ g < W'.heap.size ∧ ∃ cs : Array Value, cs.size = n ∧ (B → cs = C) ∧ W'.row g = some (.cells cs T) :=
  fun a => by
    obtain ⟨h1, h2, h3, cs, h4, h5, h6⟩ := h a
    exact ⟨h1, h2, Nat.lt_of_lt_of_le h3 hg.below.size, cs, h4, h5, (hg.row_eq h3).trans h6⟩
theorem inv_bs {c : Array Value} (h : A → X ∧ l ≤ g ∧ g < W.heap.size ∧ W.row g = o) (hp : A → g ≠ p) : A → X ∧ l ≤ g ∧ g < (W.setRow p c).heap.size ∧ (W.setRow p c).row g = o :=
  fun a => ⟨(h a).1, (h a).2.1, by rw [World.setRow_size']; exact (h a).2.2.1, by rw [World.row_setRow, if_neg (hp a)]; exact (h a).2.2.2⟩
theorem inv_as {c : Array Value} (h : A → X ∧ l ≤ g ∧ g < W.heap.size ∧ ∃ cs : Array Value, cs.size = n ∧ (B → cs = C) ∧ W.row g = some (.cells cs T)) (hp : A → g ≠ p) : A → X ∧ l ≤ g ∧ g < (W.setRow p c).heap.size ∧ ∃ cs : Array Value, cs.size = n ∧ (B → cs = C) ∧ (W.setRow p c).row g = some (.cells cs T) :=
  fun a => by
    obtain ⟨h1, h2, h3, cs, h4, h5, h6⟩ := h a
    exact ⟨h1, h2, by rw [World.setRow_size']; exact h3, cs, h4, h5, by rw [World.row_setRow, if_neg (hp a)]; exact h6⟩
end
end Go
namespace Go
open Go.RowKit
/-! the frame, of which only what the region writes is another -/
def Fr (a0 : Act) (ds : List Nat) (a : Act) : Prop := a.defers = a0.defers ∧ a.tmps.size = a0.tmps.size ∧ ∀ t, t ∉ ds → a.tmps.getD t undef = a0.tmps.getD t undef
section
variable {a0 a : Act} {ds : List Nat} {d t : Nat} {v : Value}
theorem Fr.refl : Fr a0 ds a0 := ⟨rfl, rfl, fun _ _ => rfl⟩
theorem put_same (h : d < a.tmps.size) : (a.put (some d) v).tmps.getD d undef = v := by
  show (a.tmps.setIfInBounds d v).getD d undef = v
  simp [Array.getD_eq_getD_getElem?, h]
theorem put_other (h : d ≠ t) : (a.put (some d) v).tmps.getD t undef = a.tmps.getD t undef := by
  show (a.tmps.setIfInBounds d v).getD t undef = _
  simp [Array.getD_eq_getD_getElem?, h]
theorem Fr.put (h : Fr a0 ds a) (hd : d ∈ ds) : Fr a0 ds (a.put (some d) v) :=
  ⟨h.1, by show (a.tmps.setIfInBounds d v).size = _; rw [Array.size_setIfInBounds]; exact h.2.1, fun t ht => by
    rw [put_other (d := d) (t := t) (fun e => ht (by rw [← e]; exact hd))]; exact h.2.2 t ht⟩
theorem get_some (h : a.tmps.getD t undef = v) (hs : t < a.tmps.size) : a.tmps[t]? = some v := by
  rw [Array.getD_eq_getD_getElem?, Array.getElem?_eq_getElem hs] at h
  rw [Array.getElem?_eq_getElem hs, ← h]; rfl
theorem get_eval (h : a.tmps.getD t undef = v) : a.eval (.tmp t) = v := h
/-- these values, one behind the other -/
def putL (a : Act) : List (Nat × Value) → Act
  | [] => a
  | (d, v) :: l => putL (a.put (some d) v) l
theorem Act.ext' {a b : Act} (h1 : a.defers = b.defers) (h2 : a.tmps.size = b.tmps.size) (h3 : ∀ t, a.tmps.getD t undef = b.tmps.getD t undef) : a = b := by
  obtain ⟨x, p⟩ := a; obtain ⟨y, q⟩ := b
  obtain rfl : p = q := h1
  have h2' : x.size = y.size := h2
  have : x = y := by
    apply Array.ext h2'
    intro i i1 i2
    have := h3 i
    simpa [Array.getD_eq_getD_getElem?, i1, i2] using this
  rw [this]
theorem Fr.cons (h : Fr a0 (d :: ds) a) (hd : d < a0.tmps.size) : Fr (a0.put (some d) (a.tmps.getD d undef)) ds a := by
  refine ⟨h.1, ?_, fun t ht => ?_⟩
  · show a.tmps.size = (a0.tmps.setIfInBounds d _).size
    rw [Array.size_setIfInBounds]; exact h.2.1
  · by_cases e : d = t
    · subst e; rw [put_same hd]
    · rw [put_other e]
      exact h.2.2 t (fun hm => by rcases List.mem_cons.1 hm with h | h; exact e h.symm; exact ht h)
theorem Fr.nil (h : Fr a0 [] a) : a = a0 := Act.ext' h.1 h.2.1 fun t => h.2.2 t (by simp)
theorem Fr.puts : ∀ (ds : List Nat) (a0 : Act), Fr a0 ds a → (∀ d ∈ ds, d < a0.tmps.size) → a = putL a0 (ds.map fun d => (d, a.tmps.getD d undef))
  | [], _, h, _ => h.nil
  | d :: ds, a0, h, hd => by
    have := Fr.puts ds _ (h.cons (hd d (by simp))) (fun x hx => by
      show x < (a0.tmps.setIfInBounds d _).size
      rw [Array.size_setIfInBounds]; exact hd x (by simp [hx]))
    exact this
end
end Go
namespace Go
/-! short words for the steps of an invariant -/
section
variable {L : Nat → Bool} {i j k d t n l g p : Nat} {a : Act} {v V : Value} {W W' : World} {A X P : Prop} {C : Array Value} {T : TypeId} {o : Option Obj}
theorem iN (h : L i = false) : L i = true → P := fun h2 => by rw [h] at h2; cases h2
theorem iU (e : (j == i) = false) (h : upL L i j = true) : L j = true := by rw [upL_ne L (by simpa using e)] at h; exact h
theorem iO (e : (d == t) = false) (h : a.tmps.getD t undef = V) : (a.put (some d) v).tmps.getD t undef = V := (put_other (by simpa using e)).trans h
theorem iS (h : a.tmps.size = n) (e : decide (d < n) = true) : (a.put (some d) v).tmps.getD d undef = v := put_same (by rw [h]; simpa using e)
/-- a value -/
theorem iq (e : (j == i) = false) (e2 : (d == t) = false) (f : L j = true → a.tmps.getD t undef = V) : upL L i j = true → (a.put (some d) v).tmps.getD t undef = V := fun h => iO e2 (f (iU e h))
theorem iq0 (e : (j == i) = false) (f : L j = true → A) : upL L i j = true → A := fun h => f (iU e h)
theorem iw (e : (j == i) = false) (f : L j = true → L k = true) : upL L i j = true → upL L i k = true := fun h => upL_of (f (iU e h))
/-- a value, and what is kept as the world grows -/
theorem ic (e : (j == i) = false) (e2 : (d == t) = false) (f : L j = true → a.tmps.getD t undef = V ∧ A) (m : A → P) : upL L i j = true → (a.put (some d) v).tmps.getD t undef = V ∧ P := fun h => ⟨iO e2 (f (iU e h)).1, m (f (iU e h)).2⟩
theorem ic0 (e : (j == i) = false) (f : L j = true → X ∧ A) (m : A → P) : upL L i j = true → X ∧ P := fun h => ⟨(f (iU e h)).1, m (f (iU e h)).2⟩
theorem ib (e : (j == i) = false) (e2 : (d == t) = false) (f : L j = true → a.tmps.getD t undef = V ∧ l ≤ g ∧ g < W.heap.size ∧ W.row g = o) (hg : W.grows W') : upL L i j = true → (a.put (some d) v).tmps.getD t undef = V ∧ l ≤ g ∧ g < W'.heap.size ∧ W'.row g = o :=
  fun h => inv_b (fun h => ⟨iO e2 (f (iU e h)).1, (f (iU e h)).2⟩) hg h
theorem ib0 {c : Array Value} (e : (j == i) = false) (f : L j = true → X ∧ l ≤ g ∧ g < W.heap.size ∧ W.row g = o) (hp : upL L i j = true → g ≠ p) : upL L i j = true → X ∧ l ≤ g ∧ g < (W.setRow p c).heap.size ∧ (W.setRow p c).row g = o := inv_bs (fun h => f (iU e h)) hp
theorem ia (e : (j == i) = false) (e2 : (d == t) = false) (e3 : upL L i k = true → L k = true) (f : L j = true → a.tmps.getD t undef = V ∧ l ≤ g ∧ g < W.heap.size ∧ ∃ cs : Array Value, cs.size = n ∧ (L k = true → cs = C) ∧ W.row g = some (.cells cs T)) (hg : W.grows W') :
    upL L i j = true → (a.put (some d) v).tmps.getD t undef = V ∧ l ≤ g ∧ g < W'.heap.size ∧ ∃ cs : Array Value, cs.size = n ∧ (upL L i k = true → cs = C) ∧ W'.row g = some (.cells cs T) :=
  fun h => inv_a (fun h => by
    obtain ⟨h1, h2, h3, cs, h4, h5, h6⟩ := f (iU e h)
    exact ⟨iO e2 h1, h2, h3, cs, h4, fun h => h5 (e3 h), h6⟩) hg h
theorem iv {C' : Array Value} (e : (j == i) = false) (e2 : (d == t) = false) (e3 : upL L i k = true → False) (f : L j = true → a.tmps.getD t undef = V ∧ l ≤ g ∧ g < W.heap.size ∧ ∃ cs : Array Value, cs.size = n ∧ (L k = true → cs = C) ∧ W.row g = some (.cells cs T)) (hg : W.grows W') :
    upL L i j = true → (a.put (some d) v).tmps.getD t undef = V ∧ l ≤ g ∧ g < W'.heap.size ∧ ∃ cs : Array Value, cs.size = n ∧ (upL L i k = true → cs = C') ∧ W'.row g = some (.cells cs T) :=
  fun h => inv_a (fun h => by
    obtain ⟨h1, h2, h3, cs, h4, _, h6⟩ := f (iU e h)
    exact ⟨iO e2 h1, h2, h3, cs, h4, fun h => (e3 h).elim, h6⟩) hg h
theorem ia0 {c : Array Value} (e : (j == i) = false) (e3 : (k == i) = false) (f : L j = true → X ∧ l ≤ g ∧ g < W.heap.size ∧ ∃ cs : Array Value, cs.size = n ∧ (L k = true → cs = C) ∧ W.row g = some (.cells cs T)) (hp : upL L i j = true → g ≠ p) :
    upL L i j = true → X ∧ l ≤ g ∧ g < (W.setRow p c).heap.size ∧ ∃ cs : Array Value, cs.size = n ∧ (upL L i k = true → cs = C) ∧ (W.setRow p c).row g = some (.cells cs T) :=
  inv_as (fun h => by
    obtain ⟨h1, h2, h3, cs, h4, h5, h6⟩ := f (iU e h)
    exact ⟨h1, h2, h3, cs, h4, fun h => h5 (iU e3 h), h6⟩) hp
theorem id2 (e : (j == i) = false) (e2 : (k == i) = false) (f : L j = true → L k = true → P) : upL L i j = true → upL L i k = true → P := fun h h2 => f (iU e h) (iU e2 h2)
end
end Go

/- REGIONS THAT DRAW THEIR ORDER, PARTED: the first n operations only read, or call what only makes new blocks, in whatever order; the others come behind them, one by one. Laws over any program. No condition. -/
import Derived.Test.YthcaphoejplecaaGreatDoorKit
import Derived.StillTail
set_option linter.unusedSimpArgs false
set_option linter.unusedVariables false
namespace Go
open Go.RowKit

section
variable {P : Program} {ops : Array Oper} {md : Region.Mode} {C : World → Prop}

/-- What is asked of the first n operations: they wait for earlier ones alone, and their guards are earlier ones. -/
def headB (md : Region.Mode) (ops : Array Oper) (n : Nat) : Bool :=
  (List.range n).all fun i => match ops[i]? with
    | some o => (o.after.all fun e => !Region.binds md e || decide (e.on < i)) && (match o.guard with | some (j, _) => decide (j < n) | none => true)
    | none => false

theorem headB_spec {n : Nat} (h : headB md ops n = true) {i : Nat} (hi : i < n) : ∃ o, ops[i]? = some o ∧ (∀ e ∈ o.after, Region.binds md e = true → e.on < i) ∧ ∀ j b, o.guard = some (j, b) → j < n := by
  have h1 := List.all_eq_true.1 h i (List.mem_range.2 hi)
  cases ho : ops[i]? with
  | none => simp [ho] at h1
  | some o =>
    simp only [ho, Bool.and_eq_true, Array.all_eq_true_iff_forall_mem, Bool.or_eq_true, Bool.not_eq_true', decide_eq_true_eq] at h1
    refine ⟨o, rfl, fun e he hb => ?_, fun j b hg => ?_⟩
    · rcases h1.1 e he with h2 | h2
      · rw [hb] at h2; cases h2
      · exact h2
    · have := h1.2; rw [hg] at this; simpa using this

theorem wanted_cut {ops H : Array Oper} {o : Oper} {n : Nat} (hH : ∀ i, i < n → H[i]? = ops[i]?) (hg : ∀ j b, o.guard = some (j, b) → j < n) (tmps : Array Value) :
    Region.wanted o (yielded H tmps) = Region.wanted o (yielded ops tmps) := by
  unfold Region.wanted
  cases hgd : o.guard with
  | none => rfl
  | some p =>
    obtain ⟨j, b⟩ := p
    have : yielded H tmps j = yielded ops tmps j := by unfold yielded; rw [hH j (hg j b hgd)]
    simp only [this]

theorem wpOp_of_cut {H : Array Oper} {n i : Nat} (hH : ∀ i, i < n → H[i]? = ops[i]?) (hB : headB md ops n = true) (hi : i < n) {a : Act} {K : Act → Prop} {K' : Act → World → Prop} {Q' : Exit → Act → World → Prop} {w : World}
    (hw : C w) (h : ∀ a w', C w' → K a → K' a w') (hq : qOp P H C i K a) : wpOp P ops Q' i K' a w := by
  have hq' : qOp P ops C i K a := by
    obtain ⟨o, ho, _, hg⟩ := headB_spec hB hi
    unfold qOp at *
    rw [hH i hi] at hq
    simp only [ho] at hq ⊢
    rwa [wanted_cut hH hg] at hq
  exact wpOp_of_qOp hw h hq'

/-- The rest, one by one, whatever fuel is left over. -/
theorem wpAny_of_seq_more {Q' : Exit → Act → World → Prop} : ∀ (l : List Oper) (k F : Nat) (listed : Array Bool) (a : Act) (w : World), l.length ≤ F → (∀ j, l[j]? = ops[k + j]?) →
    Region.seqB md ops l.length k listed = true → wpList P ops Q' l a w → wpAny P md ops Q' F listed a w
  | [], k, F, listed, a, w, _, _, hB, h => by
    have hr : Region.ready md ops listed = [] := by simpa [Region.seqB] using hB
    cases F with
    | zero => exact ⟨hr, h⟩
    | succ F => exact ⟨fun _ => h, fun i hi => by rw [hr] at hi; cases hi⟩
  | o :: l, k, F, listed, a, w, hF, hl, hB, h => by
    have h0 : ops[k]? = some o := by simpa using (hl 0).symm
    simp only [List.length_cons, Region.seqB, Bool.and_eq_true, decide_eq_true_eq] at hB
    cases F with
    | zero => simp at hF
    | succ F =>
      refine ⟨fun h1 => (by rw [hB.1] at h1; cases h1), fun i hi => ?_⟩
      rw [hB.1] at hi
      have hik : i = k := by simpa using hi
      subst hik
      have hw : wpOp P ops Q' i (wpList P ops Q' l) a w := by unfold wpOp; simp only [h0]; exact h
      exact wpOp_mono (fun a' w' h' => wpAny_of_seq_more l (i + 1) F _ a' w' (by simpa using hF) (fun j => by have := hl (j + 1); simpa [Nat.add_assoc, Nat.add_comm 1 j] using this) hB.2 h') hw

/-- The listed operations of the whole, and of the first n alone. -/
structure Cut (ops : Array Oper) (n : Nat) (listedH listed : Array Bool) : Prop where
  sizeH : listedH.size = n
  size : listed.size = ops.size
  same : ∀ i, i < n → ∀ b, listedH.getD i b = listed.getD i b

theorem Cut.set {n i : Nat} {listedH listed : Array Bool} (c : Cut ops n listedH listed) (hn : n ≤ ops.size) (hi : i < n) : Cut ops n (listedH.setIfInBounds i true) (listed.setIfInBounds i true) := by
  refine ⟨by simp [c.sizeH], by simp [c.size], fun j hj b => ?_⟩
  by_cases hij : i = j
  · subst hij
    have h1 : i < listedH.size := by rw [c.sizeH]; exact hi
    have h2 : i < listed.size := by rw [c.size]; omega
    simp [h1, h2]
  · rw [getD_set_ne b hij, getD_set_ne b hij]; exact c.same j hj b

theorem Cut.ready {n i : Nat} {H : Array Oper} {listedH listed : Array Bool} (c : Cut ops n listedH listed) (hH : ∀ i, i < n → H[i]? = ops[i]?) (hB : headB md ops n = true) (hi : i < n)
    (hr : i ∈ Region.ready md ops listed) : i ∈ Region.ready md H listedH := by
  obtain ⟨h0, o, ho, hall⟩ := mem_ready.1 hr
  obtain ⟨o', ho', hlt, _⟩ := headB_spec hB hi
  have : o = o' := Option.some.inj (ho.symm.trans ho')
  subst this
  refine mem_ready.2 ⟨by rw [c.same i hi]; exact h0, o, by rw [hH i hi]; exact ho, fun e he hb => ?_⟩
  have := hlt e he hb
  rw [c.same e.on (by omega)]
  exact hall e he hb

/-- Where none of the first n may come up, all of them have. -/
theorem Cut.all {n : Nat} {H : Array Oper} {listedH listed : Array Bool} (c : Cut ops n listedH listed) (hH : ∀ i, i < n → H[i]? = ops[i]?) (hB : headB md ops n = true) (hr : Region.ready md H listedH = []) :
    ∀ i, i < n → listed.getD i true = true := by
  intro i
  induction i using Nat.strongRecOn with
  | _ i ih =>
    intro hi
    cases hl : listed.getD i true with
    | true => rfl
    | false =>
      obtain ⟨o, ho, hlt, _⟩ := headB_spec hB hi
      have : i ∈ Region.ready md H listedH := by
        refine mem_ready.2 ⟨by rw [c.same i hi]; exact hl, o, by rw [hH i hi]; exact ho, fun e he hb => ?_⟩
        have h1 := hlt e he hb
        have h2 := ih e.on h1 (by omega)
        rw [c.same e.on (by omega)]
        cases h3 : listed.getD e.on false with
        | true => rfl
        | false => rw [getD_in (by rw [c.size]; have := (Array.getElem?_eq_some_iff.1 ho).1; omega) h3] at h2; cases h2
      rw [hr] at this; cases this

theorem wpAny_of_cut {n g : Nat} {H : Array Oper} {Lq : Act → Prop} {Q' : Exit → Act → World → Prop} {tl : List Oper} (hH : ∀ i, i < n → H[i]? = ops[i]?) (hB : headB md ops n = true)
    (hs : Region.sinkB md ops n = true) (hc : Region.chainB md ops n = true) (hn : n < ops.size) (hg : tl.length = g) (htl : ∀ j, tl[j]? = ops[n + j]?)
    (hseq : ∀ listed : Array Bool, listed.size = ops.size → (∀ i, i < n → listed.getD i true = true) → (∀ t, n ≤ t → t < ops.size → listed.getD t true = false) → Region.seqB md ops g n listed = true)
    (hL : ∀ a w, C w → Lq a → wpList P ops Q' tl a w) :
    ∀ (f : Nat) (listedH listed : Array Bool) (a : Act) (w : World), Cut ops n listedH listed → HeadInv md ops n listed → C w → wpAnyQ P md H C Lq f listedH a → wpAny P md ops Q' (f + g) listed a w := by
  intro f
  induction f with
  | zero =>
    intro listedH listed a w c inv hw h
    exact wpAny_of_seq_more tl n _ listed a w (by omega) htl (by rw [hg]; exact hseq listed c.size (c.all hH hB h.1) inv.tail) (hL a w hw h.2)
  | succ f ih =>
    intro listedH listed a w c inv hw h
    cases hr : Region.ready md H listedH with
    | nil => exact wpAny_of_seq_more tl n _ listed a w (by omega) htl (by rw [hg]; exact hseq listed c.size (c.all hH hB hr) inv.tail) (hL a w hw (h.1 hr))
    | cons r0 rs =>
      have hr0 : r0 ∈ Region.ready md H listedH := by rw [hr]; exact List.mem_cons_self
      have hr0n : r0 < n := by
        obtain ⟨hh, _⟩ := mem_ready.1 hr0
        rcases Nat.lt_or_ge r0 n with h' | h'
        · exact h'
        · rw [← c.sizeH] at h'; simp [Array.getElem?_eq_none h'] at hh
      have hun : listed.getD r0 true = false := by rw [← c.same r0 hr0n]; exact (mem_ready.1 hr0).1
      rw [show f + 1 + g = (f + g) + 1 by omega]
      have hnot : ∀ t, n ≤ t → t ∉ Region.ready md ops listed := tail_waits hs hc hn inv _ r0 rfl hr0n hun
      refine ⟨fun h0 => ?_, fun i hi => ?_⟩
      · -- some operation may come up: the least one that has not
        have hall : ∀ i, i < n → listed.getD i true = true := by
          intro i
          induction i using Nat.strongRecOn with
          | _ i ih2 =>
            intro hi
            cases hl : listed.getD i true with
            | true => rfl
            | false =>
              obtain ⟨o, ho, hlt, _⟩ := headB_spec hB hi
              have : i ∈ Region.ready md ops listed := by
                refine mem_ready.2 ⟨hl, o, ho, fun e he hb => ?_⟩
                have h1 := hlt e he hb
                have h2 := ih2 e.on h1 (by omega)
                cases h3 : listed.getD e.on false with
                | true => rfl
                | false => rw [getD_in (by rw [c.size]; omega) h3] at h2; cases h2
              rw [h0] at this; cases this
        rw [hall r0 hr0n] at hun; cases hun
      · have hin : i < n := by
          rcases Nat.lt_or_ge i n with h' | h'
          · exact h'
          · exact absurd hi (hnot i h')
        have hiH := c.ready hH hB hin hi
        exact wpOp_of_cut hH hB hin hw (fun a' w' hw' hk => ih _ _ a' w' (c.set (by omega) hin) (inv.set hi hin) hw' hk) (h.2 i hiH)

/-- The Bool that the kernel reckons, of the list of operations and n. -/
def tailB (md : Region.Mode) (l : List Oper) (n : Nat) : Bool :=
  headB md l.toArray n && Region.sinkB md l.toArray n && Region.chainB md l.toArray n && decide (n < l.length) &&
    Region.seqB md l.toArray (l.length - n) n (Array.replicate n true ++ Array.replicate (l.length - n) false) &&
    Region.noSelect (l.take n).toArray && Region.lexFrom md (l.take n).toArray n 0 (Array.replicate n false)

theorem listed_eq {m n : Nat} {listed : Array Bool} (hn : n < m) (hsz : listed.size = m) (h1 : ∀ i, i < n → listed.getD i true = true) (h2 : ∀ t, n ≤ t → t < m → listed.getD t true = false) :
    listed = Array.replicate n true ++ Array.replicate (m - n) false := by
  apply Array.ext
  · simp [hsz]; omega
  · intro i hi1 hi2
    rw [Array.getElem_append]
    have hi : i < m := by omega
    split
    · rename_i hlt
      have := h1 i (by simpa using hlt)
      simp [hi1] at this; simp [this]
    · rename_i hge
      have := h2 i (by simpa using hge) hi
      simp [hi1] at this; simp [this]

/-- **THE LAW**: the first n operations walked once, in the text's order, over every world of the class; then the others, in any world of the class. -/
theorem wp_region_class_tail {id : Nat} {Q : Exit → Act → World → Prop} {a : Act} {w : World} {l : List Oper} (n : Nat) (hm : P.follows .mixedOrders = true) (hB : tailB .any l n = true) (hC : C { w with drawn := w.drawn + 1 })
    (h : wpQuiet P (l.take n).toArray C (fun a' => ∀ w', C w' → wpList P l.toArray Q (l.drop n) a' w') (l.take n) a) : (Code.region id l.toArray true).wp P Q a w := by
  simp only [tailB, Bool.and_eq_true, decide_eq_true_eq] at hB
  obtain ⟨⟨⟨⟨⟨⟨h1, h2⟩, h3⟩, h4⟩, h5⟩, h6⟩, h7⟩ := hB
  have hsz : (l.take n).length = n := by simp; omega
  have hq := wpAnyQ_lex (C := C) (md := .any) h6 (l.take n) 0 (Array.replicate n false) a (by simp) (by rw [hsz]; exact h7) h
  rw [hsz] at hq
  refine wp_region_any hm ?_
  have := wpAny_of_cut (P := P) (C := C) (ops := l.toArray) (H := (l.take n).toArray) (md := .any) (g := l.length - n) (Q' := Q) (tl := l.drop n) (n := n)
    (fun i hi => by simp [hi]) h1 h2 h3 (by simpa using h4) (by simp) (fun j => by simp [List.getElem?_drop])
    (fun listed hs1 hs2 hs3 => by rw [listed_eq (m := l.length) h4 (by simpa using hs1) hs2 (fun t ht ht' => hs3 t ht (by simpa using ht'))]; exact h5)
    (fun a' w' hw' hk => hk w' hw') n (Array.replicate n false) (Array.replicate l.toArray.size false) a { w with drawn := w.drawn + 1 }
    ⟨by simp, by simp, fun i hi b => by simp [hi]; rw [Array.getElem?_replicate, if_pos (by omega)]; rfl⟩
    ⟨by simp, fun j oj _ hl => (by rw [getD_replicate_false] at hl; cases hl), fun t _ ht => getD_in (by simpa using ht) (getD_replicate_false _ _)⟩ hC hq
  rw [show n + (l.length - n) = l.toArray.size by simp; omega] at this
  exact this
end

/-- The same at the class 'w with more blocks'. -/
theorem wp_region_plus_tail {P : Program} {id : Nat} {Q : Exit → Act → World → Prop} {a : Act} {w : World} {l : List Oper} (n : Nat) (hm : P.follows .mixedOrders = true) (hB : tailB .any l n = true)
    (h : wpQuiet P (l.take n).toArray (fun w' => ∃ x, w' = w.plus x) (fun a' => ∀ w', (∃ x, w' = w.plus x) → wpList P l.toArray Q (l.drop n) a' w') (l.take n) a) : (Code.region id l.toArray true).wp P Q a w :=
  wp_region_class_tail n hm hB ⟨_, w.drew_is_plus⟩ h

end Go

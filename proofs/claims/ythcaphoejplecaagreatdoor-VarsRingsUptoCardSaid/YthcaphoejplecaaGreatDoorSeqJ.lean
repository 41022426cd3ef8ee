/- LAWS: a drawn region whose head is taken in the text's order, and whose end comes in any order, by an invariant. No condition. -/
import Derived.Test.YthcaphoejplecaaGreatDoorSeqO
import Derived.Test.YthcaphoejplecaaGreatDoorFlt
set_option linter.unusedSimpArgs false
set_option linter.unusedVariables false
namespace Go
open Go.RowKit
section
variable {P : Program} {md : Region.Mode} {ops : Array Oper} {S : World → Prop}
theorem wpAny_of_seqJ {n g : Nat} {F : Act → World → Prop} {Q' : Exit → Act → World → Prop} (hsel : Region.noSelect ops = true) (hB : headB md ops n = true) (hpB : pairsB md ops n = true) (hcB : chainsB md ops n = true)
    (htail : ∀ (listed : Array Bool), HeadInv md ops n listed → ∀ i, i < n → listed.getD i true = false → ∀ t, n ≤ t → t ∉ Region.ready md ops listed) (hn : n ≤ ops.size)
    (hL : ∀ (listed : Array Bool) a w, listed.size = ops.size → (∀ i, i < n → listed.getD i true = true) → (∀ t, n ≤ t → t < ops.size → listed.getD t true = false) → S w → F a w → wpAny P md ops Q' g listed a w) :
    ∀ (m : Nat) (r : List Nat) (listed : Array Bool) (a : Act) (w : World), r.length = m → r.Pairwise (· < ·) → (∀ i, i < n → (listed.getD i true = false ↔ i ∈ r)) → (∀ i ∈ r, i < n) → HeadInv md ops n listed → S w →
      wpSeqI P ops S F r a w → wpAny P md ops Q' (m + g) listed a w := by
  intro m
  induction m with
  | zero =>
    intro r listed a w hm _ hr _ inv hS h
    obtain rfl : r = [] := List.eq_nil_of_length_eq_zero hm
    have hall : ∀ i, i < n → listed.getD i true = true := fun i hi => by
      cases hl : listed.getD i true with
      | true => rfl
      | false => exact absurd ((hr i hi).1 hl) (List.not_mem_nil)
    rw [Nat.zero_add]
    exact hL listed a w inv.size hall inv.tail hS h
  | succ m ih =>
    intro r listed a w hm hp hr hrn inv hS h
    rw [show m + 1 + g = (m + g) + 1 by omega]
    cases r with
    | nil => cases hm
    | cons r0 rs =>
      have hr0n : r0 < n := hrn r0 List.mem_cons_self
      have hun : listed.getD r0 true = false := (hr r0 hr0n).2 List.mem_cons_self
      have hnot := htail listed inv r0 hr0n hun
      have hr0 : r0 ∈ Region.ready md ops listed := by
        obtain ⟨o, ho, hlt, _⟩ := headB_spec hB hr0n
        refine mem_ready.2 ⟨hun, o, ho, fun e he hb => ?_⟩
        have h1 := hlt e he hb
        cases h3 : listed.getD e.on false with
        | true => rfl
        | false =>
          have h4 := getD_in (by rw [inv.size]; omega) h3
          have h5 := (hr e.on (by omega)).1 h4
          rcases List.mem_cons.1 h5 with h6 | h6
          · omega
          · have := List.rel_of_pairwise_cons hp h6; omega
      refine ⟨fun h0 => (by rw [h0] at hr0; cases hr0), fun i hi => ?_⟩
      have hin : i < n := by
        rcases Nat.lt_or_ge i n with h' | h'
        · exact h'
        · exact absurd hi (hnot i h')
      obtain ⟨hiun, oi, hoi, hall⟩ := mem_ready.1 hi
      have hir : i ∈ r0 :: rs := (hr i hin).1 hiun
      obtain ⟨pre, post, hpp⟩ := List.append_of_mem hir
      rw [hpp] at h hp hm hr hrn
      have hlt : ∀ j ∈ pre, j < i := fun j hj => (List.pairwise_append.1 hp).2.2 j hj i List.mem_cons_self
      have hstep := wpSeqI_extract hoi (Region.noSelect_spec hsel) pre post a w hS (fun j hj oj hoj => by
        have hji := hlt j hj
        have hjun : listed.getD j true = false := (hr j (by omega)).2 (List.mem_append_left _ hj)
        refine ⟨?_, fun hfj => ?_⟩
        · rcases pairsB_spec hpB hin hji hoi hoj with h1 | h1
          · obtain ⟨o', ho', e, he, hb, hon⟩ := Region.waitsFor_spec h1
            have : o' = oi := Option.some.inj (ho'.symm.trans hoi)
            subst this
            have h2 := hall e he hb
            rw [hon, getD_both hjun] at h2; cases h2
          · exact h1
        · cases hfi : freeOp oi with
          | true => rfl
          | false =>
            have h2 := chain_listed hcB inv.closed i j oi oj hin hji hoi hoj hfi hfj hall
            rw [getD_both hjun] at h2; cases h2) h
      refine wpOp_mono (fun a' w' hh => ?_) (wpOp_of_stepI (Q' := Q') hoi hS hstep)
      refine ih (pre ++ post) _ a' w' (by simp at hm ⊢; omega) ?_ ?_ ?_ (inv.set hi hin) hh.1 hh.2
      · exact List.Pairwise.sublist (List.Sublist.append (List.Sublist.refl _) (List.sublist_cons_self _ _)) hp
      · intro k hk
        by_cases hki : i = k
        · subst hki
          have hsz : i < listed.size := by rw [inv.size]; omega
          constructor
          · intro h1; simp [hsz] at h1
          · intro h1
            exfalso
            rcases List.mem_append.1 h1 with h1 | h1
            · have := hlt i h1; omega
            · have := List.rel_of_pairwise_cons (List.pairwise_append.1 hp).2.1 h1; omega
        · rw [getD_set_ne true hki, hr k hk]
          simp only [List.mem_append, List.mem_cons]
          constructor
          · rintro (h1 | h1 | h1)
            · exact .inl h1
            · exact absurd h1.symm hki
            · exact .inr h1
          · rintro (h1 | h1)
            · exact .inl h1
            · exact .inr (.inr h1)
      · intro k hk
        refine hrn k ?_
        simp only [List.mem_append, List.mem_cons] at hk ⊢
        rcases hk with h1 | h1
        · exact .inl h1
        · exact .inr (.inr h1)


end
/-- **THE LAW**: the first n in the text's order; those behind them, of which each waits for them, in any order, by an invariant. -/
def seqHeadB (md : Region.Mode) (l : List Oper) (n : Nat) : Bool :=
  Region.noSelect l.toArray && headB md l.toArray l.length && headB md l.toArray n && pairsB md l.toArray n && chainsB md l.toArray n && ((List.range' n (l.length - n)).all fun t => (List.range n).all fun i => Region.waitsFor md l.toArray t i) && decide (n < l.length)
theorem wp_region_seq_inv {P : Program} {S : World → Prop} {id : Nat} {Q : Exit → Act → World → Prop} {a : Act} {w : World} {l : List Oper} (n : Nat) (hm : P.follows .mixedOrders = true) (hB : seqHeadB .any l n = true) (hS : S { w with drawn := w.drawn + 1 })
    (h : wpSeqL P l.toArray S (fun a1 w0 => ∀ a0, a0 = a1 → ∃ J : (Nat → Bool) → Act → World → Prop, (∀ L : Nat → Bool, (∀ i, i < n → L i = true) → (∀ i, n ≤ i → i < l.length → L i = false) → J L a0 w0) ∧
      (allOps (fun i o => n ≤ i → invStep P l (fun L a w => (∀ i, i < n → L i = true) ∧ J L a w) i o) 0 l) ∧ (∀ a' w', J (fun _ => true) a' w' → Q .normal a' w')) (l.take n) a { w with drawn := w.drawn + 1 }) : (Code.region id l.toArray true).wp P Q a w := by
  simp only [seqHeadB, Bool.and_eq_true, decide_eq_true_eq] at hB
  obtain ⟨⟨⟨⟨⟨⟨h1, h2⟩, hBn⟩, h3⟩, h4⟩, h5⟩, h7⟩ := hB
  have htail : ∀ (listed : Array Bool), HeadInv .any l.toArray n listed → ∀ i, i < n → listed.getD i true = false → ∀ t, n ≤ t → t ∉ Region.ready .any l.toArray listed := fun listed inv i hi hun t ht hr => by
    obtain ⟨_, o, ho, hall⟩ := mem_ready.1 hr
    have htl := (Array.getElem?_eq_some_iff.1 ho).1
    have h8 := List.all_eq_true.1 h5 t (List.mem_range'.2 ⟨t - n, by simp at htl; omega, by omega⟩)
    have h9 := List.all_eq_true.1 h8 i (List.mem_range.2 hi)
    obtain ⟨o', ho', e, he, hb, hon⟩ := Region.waitsFor_spec h9
    obtain rfl : o' = o := Option.some.inj (ho'.symm.trans ho)
    have h10 := hall e he hb
    rw [hon, getD_both hun] at h10; cases h10
  refine wp_region_any hm ?_
  have hsz : (l.take n).length = n := by simp; omega
  have hB' : headB .any l.toArray l.toArray.size = true := by simpa using h2
  have := wpAny_of_seqJ (P := P) (S := S) (ops := l.toArray) (md := .any) (n := n) (g := l.length - n) (Q' := Q) (F := fun a1 w0 => ∀ a0, a0 = a1 → ∃ J : (Nat → Bool) → Act → World → Prop, (∀ L : Nat → Bool, (∀ i, i < n → L i = true) → (∀ i, n ≤ i → i < l.length → L i = false) → J L a0 w0) ∧
      (allOps (fun i o => n ≤ i → invStep P l (fun L a w => (∀ i, i < n → L i = true) ∧ J L a w) i o) 0 l) ∧ (∀ a' w', J (fun _ => true) a' w' → Q .normal a' w')) h1 hBn h3 h4
    htail (by simp; omega)
    (fun listed a0 w0 hs1 hs2 hs3 _ hF => by
      obtain ⟨J, j0, jstep, jend⟩ := hF a0 rfl
      refine wpAny_of_inv (J := fun L a w => closedL l L ∧ (∀ i, i < n → L i = true) ∧ J L a w) hB' (fun i hi L a' w' hL hd hJ => ?_) (fun a' w' hh => jend a' w' hh.2.2) (l.length - n) listed a0 w0 hs1 ?_ ⟨?_, fun i hi => hs2 i hi, j0 _ (fun i hi => hs2 i hi) fun i hi hi2 => hs3 i hi (by simpa using hi2)⟩
      · have hi' : i < l.length := by simpa using hi
        by_cases hin : n ≤ i
        · have := allOps_get l 0 jstep i l[i] (by simp [hi'])
          rw [Nat.zero_add] at this
          have h8 := wpOp_of_invStep (Q := Q) (by simp [hi']) (this hin) hL hd hJ.1 ⟨hJ.2.1, hJ.2.2⟩
          exact wpOp_mono (fun _ _ hh => ⟨hh.1, hh.2.1, hh.2.2⟩) h8
        · rw [hJ.2.1 i (by omega)] at hL; cases hL
      · have hle : ((List.range l.toArray.size).filter fun i => !listed.getD i true) = (List.range l.toArray.size).filter (fun i => decide (n ≤ i)) := by
          refine List.filter_congr fun i hi => ?_
          have hi' := List.mem_range.1 hi
          by_cases hin : n ≤ i
          · rw [hs3 i hin hi']; simp [hin]
          · rw [hs2 i (by omega)]; simp [hin]
        rw [hle]
        have : ∀ k, ((List.range k).filter (fun i => decide (n ≤ i))).length ≤ k - n := fun k => by
          induction k with
          | zero => simp
          | succ k ih =>
            rw [List.range_succ, List.filter_append, List.length_append]
            by_cases hk : n ≤ k
            · simp [hk]; omega
            · simp [hk]; omega
        simpa using this l.toArray.size
      · intro i j hi hw hl
        by_cases hj : j < n
        · exact hs2 j hj
        · exfalso
          obtain ⟨o, ho, e, he, hb, hon⟩ := Region.waitsFor_spec hw
          by_cases hin : n ≤ i
          · have h9 : listed.getD i true = true := hl
            rw [hs3 i hin (by simpa using hi)] at h9; cases h9
          · obtain ⟨o', ho', hlt, _⟩ := headB_spec hBn (show i < n by omega)
            obtain rfl : o' = o := Option.some.inj (ho'.symm.trans ho)
            have := hlt e he hb
            omega) n (List.range' 0 n) (Array.replicate l.toArray.size false) a { w with drawn := w.drawn + 1 } (by simp) (List.pairwise_lt_range' ..) (fun i hi => by simp [hi]; rw [Array.getElem?_replicate, if_pos (by omega)]; rfl) (fun i hi => by simpa using hi) (inv0 l _) hS
    (by have := wpSeqI_of_L (ops := l.toArray) (l.take n) 0 a _ (fun j hj => by rw [hsz] at hj; simp [hj]) h; rwa [hsz] at this)
  rw [show n + (l.length - n) = l.toArray.size by simp; omega] at this
  exact this
end Go

/- Texts of the walk, one after the other; what each proves stands ahead of it. -/
import Derived.Maps.RangeWalk
import Derived.Sort.KeysCollected
import Derived.Test.YthcaphoejplecaaGreatDoorVb2
import Derived.Test.YthcaphoejplecaaGreatDoorVl1
import Derived.Test.YthcaphoejplecaaGreatDoorVpA
import Derived.Test.YthcaphoejplecaaGreatDoorVrA
set_option linter.unusedSimpArgs false
set_option linter.unusedVariables false
/- MEMORY and CONTRACTS: names that are used are no longer than tokens; the names of a map, in order; maps from names to names. No condition. -/
namespace Go
open Go.RowKit Go.Maps
mutual
/-- each token in a tree -/
def allTV (P : Tk → Prop) : Vt → Prop
  | .mk t ks => P t ∧ allTL P ks
def allTL (P : Tk → Prop) : List Vt → Prop
  | [] => True
  | x :: l => allTV P x ∧ allTL P l
end
theorem allTL_app {P : Tk → Prop} (a b : List Vt) : allTL P (a ++ b) ↔ allTL P a ∧ allTL P b := by
  induction a with
  | nil => simp [allTL]
  | cons x a ih => simp [allTL, ih, and_assoc]
theorem allTL_mem {P : Tk → Prop} {l : List Vt} : allTL P l ↔ ∀ x ∈ l, allTV P x := by
  induction l with
  | nil => simp [allTL]
  | cons x l ih => simp [allTL, ih]
def AlS (P : Tk → Prop) (s : List Frm) : Prop := ∀ f ∈ s, (f.tok = zeroTk ∨ P f.tok) ∧ allTL P f.kids
theorem AlS.add {P : Tk → Prop} {s : List Frm} {x : Vt} (h : AlS P s) (hx : allTV P x) : AlS P (addS s x) := by
  cases s with
  | nil => exact h
  | cons f r =>
    intro g hg
    rcases List.mem_cons.1 hg with rfl | hg
    · obtain ⟨h1, h2⟩ := h f (by simp)
      exact ⟨h1, (allTL_app _ _).2 ⟨h2, by simp [allTL, hx]⟩⟩
    · exact h g (by simp [hg])
theorem AlS.tail {P : Tk → Prop} {f : Frm} {s : List Frm} (h : AlS P (f :: s)) : AlS P s := fun g hg => h g (by simp [hg])
theorem AlS.push {P : Tk → Prop} {t : Tk} {s : List Frm} (h : AlS P s) (ht : P t) : AlS P (⟨t, []⟩ :: s) := fun g hg => by
  rcases List.mem_cons.1 hg with rfl | hg
  · exact ⟨.inr ht, by rw [allTL]; trivial⟩
  · exact h g hg
theorem AlS.shut {P : Tk → Prop} {f : Frm} {s : List Frm} (h : AlS P (f :: s)) (hP : P zeroTk) : AlS P (addS s (.mk f.tok f.kids)) := by
  obtain ⟨h1, h2⟩ := h f (by simp)
  refine h.tail.add ?_
  rw [allTV]
  refine ⟨?_, h2⟩
  rcases h1 with h1 | h1
  · rw [h1]; exact hP
  · exact h1
theorem AlS.step {P : Tk → Prop} (hP : P zeroTk) {s : List Frm} (h : AlS P s) {t : Tk} (ht : P t) : AlS P (stepS s t) := by
  have hl : allTV P (.mk t []) := by rw [allTV, allTL]; exact ⟨ht, trivial⟩
  unfold stepS
  split
  · exact h
  · split
    · exact h.push ht
    · exact h.add hl
  · split
    · exact h.shut hP
    · split
      · exact h.push ht
      · exact h.add hl
theorem AlS.run {P : Tk → Prop} (hP : P zeroTk) : ∀ (l : List Tk) (s : List Frm), AlS P s → (∀ t ∈ l, P t) → AlS P (l.foldl stepS s)
  | [], _, h, _ => h
  | t :: l, s, h, ht => AlS.run hP l _ (h.step hP (ht t (by simp))) fun x hx => ht x (by simp [hx])
theorem AlS.ends {P : Tk → Prop} (hP : P zeroTk) : ∀ (n : Nat) (s : List Frm), s.length = n → AlS P s → allTL P (endS s)
  | 0, s, hn, h => by rw [List.length_eq_zero_iff.1 hn, endS, allTL]; trivial
  | n + 1, s, hn, h => by
    cases s with
    | nil => simp at hn
    | cons f r =>
      cases r with
      | nil => rw [endS]; exact (h f (by simp)).2
      | cons g r =>
        rw [endS]
        exact AlS.ends hP n _ (by simpa using hn) (h.shut hP)
theorem parse_all {P : Tk → Prop} (hP : P zeroTk) {l : List Tk} (h : ∀ t ∈ l, P t) : allTL P (parse l) := by
  rw [parse_stack]
  refine AlS.ends hP _ _ rfl (AlS.run hP l _ (fun f hf => ?_) h)
  rw [List.mem_singleton.1 hf]
  exact ⟨.inl rfl, by rw [allTL]; trivial⟩
theorem namL_all {P : Tk → Prop} {nm : ByteArray} : ∀ (l : List Vt), allTL P l → namL nm l → ∃ t : Tk, P t ∧ t.s = nm
  | [], _, h => by rw [namL] at h; exact h.elim
  | .mk t ks :: l, ha, h => by
    rw [allTL, allTV] at ha
    rw [namL, namV] at h
    rcases h with (⟨_, r, hN⟩ | h) | h
    · obtain ⟨a, l2, h1, h2, _⟩ := namedT_some hN
      have hm : a ∈ ks := mem_trim (by rw [show trimT ks = a :: l2 from h1]; simp)
      have := (allTL_mem.1 ha.1.2) a hm
      obtain ⟨ta, ka⟩ := a
      rw [allTV] at this
      exact ⟨ta, this.1, h2.symm⟩
    · exact namL_all ks ha.1.2 h
    · exact namL_all l ha.2 h
termination_by l => nodesL l
decreasing_by all_goals (simp [nodesL, Vt.nodes]; try omega)
theorem usesT_small {l : List Tk} (h : ∀ t ∈ l, t.Wf) : ∀ nm ∈ usesT l, nm.size ≤ maxLen := by
  intro nm hn
  unfold usesT at hn
  split at hn
  · rcases (mem_usesL _ _ _).1 hn with h1 | h1
    · cases h1
    · obtain ⟨t, ht, e⟩ := namL_all (P := fun t => t.s.size ≤ maxLen) _ (parse_all (by decide) fun t ht => (h t ht).2.1) h1
      rw [← e]; exact ht
  · cases hn
theorem usesT_len {l : List Tk} : (usesT l).length ≤ l.length := by
  unfold usesT
  split
  · have h1 := uses_len _ (parse l) [] (Nat.le_refl _)
    have h2 := parse_nodes l
    simp only [List.length_nil] at h1
    omega
  · simp
theorem str_lt_of {a b : List UInt8} (h : a ≤ b) (hne : a ≠ b) : a < b := by
  rcases Classical.em (a < b) with h1 | h1
  · exact h1
  · exact (hne (List.le_antisymm h (List.not_lt.1 h1))).elim
theorem mem_strKeys {H : Type} {P : Program} {k : TypeId} {R : Value → Option (DataW H × List MemPlace)} {w : World} {b n : Nat} {D : DataW H} (h : w.ownsMap P k R b n D) (K : Keyed P k) (hk : P.underlying k = some .string) :
    (strKeys D).Nodup ∧ ∀ s, s ∈ strKeys D ↔ Maps.has D (.string s) = true := by
  obtain ⟨es, rfl, ap, _⟩ := h.entries K
  obtain ⟨es', e, hkeys⟩ := h.keysOf
  cases e
  have hs : ∀ p ∈ es, ∃ x, p.1 = .string x := fun p hp => by
    obtain ⟨key, hkey⟩ := hkeys p hp
    obtain ⟨x, _, e, _⟩ := keyOf_str hk hkey
    exact ⟨x, e⟩
  refine ⟨?_, fun s => ?_⟩
  · show (es.map fun p => strOf p.1).Nodup
    refine List.pairwise_map.2 (ap.imp_of_mem fun {p q} hp hq hne e => hne ?_)
    obtain ⟨x, hx⟩ := hs p hp
    obtain ⟨y, hy⟩ := hs q hq
    rw [hx, hy] at e ⊢
    exact congrArg Lit.string e
  · rw [has_eq, List.any_eq_true]
    show s ∈ es.map (fun p => strOf p.1) ↔ _
    rw [List.mem_map]
    have ik : ∀ s : List UInt8, WideAt.IsKeyLit (.string s) := fun s => by first | exact trivial | exact .inl ⟨_, rfl⟩ | simp [WideAt.IsKeyLit]
    constructor
    · rintro ⟨p, hp, rfl⟩
      obtain ⟨x, hx⟩ := hs p hp
      exact ⟨p, hp, by rw [hx]; exact WideAt.sameKey_self (ik x)⟩
    · rintro ⟨p, hp, h2⟩
      exact ⟨p, hp, by rw [WideAt.sameKey_eq h2]; rfl⟩
theorem sorted_up {ss : List (List UInt8)} (h : ss.Nodup) : (ss.mergeSort leB).Pairwise (· < ·) ∧ ∀ s, s ∈ ss.mergeSort leB ↔ s ∈ ss := by
  have tr : ∀ a b c : List UInt8, leB a b = true → leB b c = true → leB a c = true := fun a b c h1 h2 => by simp only [leB, decide_eq_true_eq] at *; exact List.le_trans h1 h2
  have tt : ∀ a b : List UInt8, (leB a b || leB b a) = true := fun a b => by simp only [leB, Bool.or_eq_true, decide_eq_true_eq]; exact List.le_total a b
  have hp := List.mergeSort_perm ss leB
  refine ⟨?_, fun s => hp.mem_iff⟩
  have h1 := List.pairwise_mergeSort tr tt ss
  have h2 : (ss.mergeSort leB).Nodup := hp.nodup_iff.2 h
  exact (h1.and h2).imp fun {a b} hab => str_lt_of (by simpa [leB] using hab.1) hab.2
/-- names in order, each once -/
def RiseB (l : List ByteArray) : Prop := l.Pairwise fun a b => a.data.toList < b.data.toList
theorem nodup_le : ∀ {l bs : List ByteArray}, l.Nodup → (∀ x ∈ l, x ∈ bs) → l.length ≤ bs.length
  | [], _, _, _ => Nat.zero_le _
  | a :: l, bs, hn, hs => by
    obtain ⟨h1, h2⟩ := List.nodup_cons.1 hn
    obtain ⟨s, t, rfl⟩ := List.append_of_mem (hs a (by simp))
    have := nodup_le (l := l) (bs := s ++ t) h2 fun x hx => by
      have h3 := hs x (by simp [hx])
      simp only [List.mem_append, List.mem_cons] at h3 ⊢
      rcases h3 with h3 | h3 | h3
      · exact .inl h3
      · rw [h3] at hx; exact absurd hx h1
      · exact .inr h3
    simp at this ⊢; omega
theorem leansL_le {k : Known} {bs : List ByteArray} (h : ∀ x, k x ≠ none → x ∈ bs) (n : ByteArray) : (leansL k n).length ≤ bs.length := by
  refine nodup_le ?_ fun x hx => ?_
  · unfold leansL
    split
    · exact List.nodup_nil
    · exact (nodup_usesT _).filter _
  · obtain ⟨_, _, _, h3⟩ := mem_leansL.1 hx
    exact h x h3
theorem ba_eta (s : ByteArray) : (⟨s.data.toList.toArray⟩ : ByteArray) = s := by
  obtain ⟨x⟩ := s
  show ByteArray.mk x.toList.toArray = _
  rw [Array.toArray_toList]
end Go
namespace Go.Proofs.YthcaphoejplecaaGreatDoor
open Go.RowKit Go.Maps
/-- names in memory -/
abbrev NsAt (w : World) (S : Nat → Prop) (v : Value) (l : List ByteArray) : Prop := SlAt w S 1 (fun s cs => cs = [.string s] ∧ s.size ≤ maxLen) v l
theorem flat_one : ∀ l : List ByteArray, (l.map fun s => [Value.string s]).flatten = l.map Value.string
  | [] => rfl
  | a :: r => by rw [List.map_cons, List.flatten_cons, flat_one r]; rfl
theorem NmO.nsAt {w : World} {B : Nat} {v : Value} {l : List ByteArray} {S : Nat → Prop} (h : NmO w B v l) (hl : ∀ s ∈ l, s.size ≤ maxLen) (hS : ∀ g, v.ownBlock = some g → S g) : NsAt w S v l := by
  have ho : OwnAt w B 9 1 (fun s cs => cs = [.string s] ∧ s.size ≤ maxLen) v l := by
    refine ⟨l.map fun s => [.string s], by simp, fun i s cs h1 h2 => ?_, ?_⟩
    · rw [List.getElem?_map, h1] at h2; cases h2; exact ⟨rfl, rfl, hl s (List.mem_of_getElem? h1)⟩
    · rw [flat_one]; exact h
  exact ho.slAt (by omega) hS
/-- names in memory, side by side -/
theorem ns_cells {w : World} {S : Nat → Prop} {a : Option Addr} {len cap : Nat} {l : List ByteArray} (h : NsAt w S (.slice a len cap) l) : (l.map Value.string).length = len * 1 ∧ (∀ s ∈ l, s.size ≤ maxLen) ∧ (len = 0 ∨ ∃ ad, a = some ad ∧ ∀ j u, (l.map Value.string)[j]? = some u → w.cell? (ad.add j) = some u) := by
  obtain ⟨rfl, css, h1, h2, h3, h4⟩ := h.cells (by omega)
  have e : ∀ (l : List ByteArray) (css : List (List Value)), css.length = l.length → (∀ (i : Nat) (x : ByteArray) (cs : List Value), l[i]? = some x → css[i]? = some cs → cs = [.string x]) → css.flatten = l.map Value.string := fun l => by
    induction l with
    | nil => intro css h _; obtain rfl := List.length_eq_zero_iff.1 h; rfl
    | cons a l ih =>
      intro css h h2
      cases css with
      | nil => cases h
      | cons c css =>
        rw [List.flatten_cons, List.map_cons, ih css (by simpa using h) (fun i x cs p q => h2 (i + 1) x cs (by simpa using p) (by simpa using q)), h2 0 a c rfl rfl]
        rfl
  have e2 := e l css h1 fun i x cs p q => (h2 i x cs p q).2.1
  rw [e2] at h4
  refine ⟨by simp, fun t ht => ?_, h4⟩
  obtain ⟨i, hi, rfl⟩ := List.mem_iff_getElem.1 ht
  exact (h2 i l[i] css[i] (List.getElem?_eq_getElem hi) (List.getElem?_eq_getElem (by omega))).2.2
theorem one_ns (l : List ByteArray) : ∀ u ∈ l.map Value.string, u.oneCell' = true := fun u hu => by
  obtain ⟨t, _, rfl⟩ := List.mem_map.1 hu; rfl
theorem NmO.short {w : World} {B c : Nat} {a : Option Addr} {o : List ByteArray} {x : ByteArray} (h : NmO w B (.slice a (o.length + 1) c) (o ++ [x])) : NmO w B (.slice a o.length c) o := by
  have h2 : w.ownsRow B 9 1 (.slice a (o.length + 1) c) (o.length + 1) ((o ++ [x]).map Value.string) := by
    have := h; unfold NmO at this; rwa [List.length_append] at this
  have h3 := own_short h2 (Nat.le_succ _)
  unfold NmO
  have e : ((o ++ [x]).map Value.string).take (o.length * 1) = o.map Value.string := by
    rw [List.map_append, Nat.mul_one, List.take_append_of_le_length (by simp), List.take_of_length_le (by simp)]
  rwa [e] at h3
theorem keysV_any (mb : Option Nat) (w : World) : Calls Tryz.prog 19 #[.map mb] w fun e w' => e = .returned (.func (.func 37) #[] #[.pointer (some ⟨w.heap.size, 0, none⟩)]) ∧ w' = w.alloc (.cells #[.map mb] 36) :=
  callsIn_wide.1 (Tryz.maps_Keys_V mb w)
/-- how the search for a map's names ends: they are told in order -/
def KeysPost (w : World) (f : List UInt8 → Option Value) (n : Nat) (e : Ending) (w' : World) : Prop := ∃ (v : Value) (bs : List ByteArray), e = .returned v ∧ w.grows w' ∧
  Hid (RiseB bs ∧ (∀ s : ByteArray, s ∈ bs ↔ f s.data.toList ≠ none) ∧ bs.length ≤ n) ∧ NsAt w' (fun g => w.heap.size ≤ g ∧ g < w'.heap.size) v bs
theorem sortedV_any {w : World} {b n : Nat} {f : List UInt8 → Option Value} {D : DataW Value} (h : MpS w b n f D) (hn : n ≤ 8388608) :
    Calls Tryz.prog 18 #[.func (.func 37) #[] #[.pointer (some ⟨w.heap.size, 0, none⟩)]] (w.alloc (.cells #[.map (some b)] 36)) (KeysPost w f n) := by
  have hown0 := h.own
  have hsz := h.own.size_le
  refine (callsIn_wide.1 (Tryz.slices_Sorted_V b n D _ w h.own (by simp only [maxLen]; omega) (by omega))).mono ?_
  rintro e w' ⟨v, ss, rfl, hp, hr, _, hb⟩
  obtain ⟨nd, hm⟩ := mem_strKeys hown0 (string_keyed Tryz.underlying9) Tryz.underlying9
  have nd2 : ss.Nodup := hp.nodup_iff.2 nd
  obtain ⟨up, hm2⟩ := sorted_up nd2
  have hlen : (ss.mergeSort leB).length = ss.length := List.length_mergeSort ss
  have hcnt : ss.length ≤ n := by
    rw [hp.length_eq]; refine Nat.le_trans ?_ hsz; cases D <;> simp [strKeys, Maps.size]
  have hsm : ∀ s ∈ ss.mergeSort leB, s.length ≤ maxLen := fun s hs => strKeys_le hown0 Tryz.underlying9 s (hp.mem_iff.1 ((hm2 s).1 hs))
  have hg : w.grows w' := (World.grows.refl.alloc _).trans (World.grows.of_below hb)
  refine ⟨v, (ss.mergeSort leB).map fun s => ⟨s.toArray⟩, rfl, hg, Lib.hid ⟨?_, fun s => ?_, by simp; omega⟩, ?_⟩
  · unfold RiseB
    rw [List.pairwise_map]
    exact up
  · rw [List.mem_map]
    have hhas : Maps.has D (.string s.data.toList) = true ↔ f s.data.toList ≠ none := by
      rw [h.has, Option.isSome_iff_ne_none]
    rw [← hhas, ← hm, ← hp.mem_iff, ← hm2]
    constructor
    · rintro ⟨x, hx, rfl⟩; exact hx
    · intro hs; exact ⟨_, hs, ba_eta s⟩
  · have ho : NmO w' (w.heap.size + 1) v ((ss.mergeSort leB).map fun s => ⟨s.toArray⟩) := by
      unfold NmO
      rw [List.length_map, hlen, List.map_map]
      have e : (w.alloc (.cells #[.map (some b)] 36)).heap.size = w.heap.size + 1 := by simp
      rw [e] at hr
      exact hr
    refine ho.nsAt (fun s hs => ?_) fun g hgb => ?_
    · obtain ⟨x, hx, rfl⟩ := List.mem_map.1 hs
      exact hsm x hx
    · have := ho.lt g hgb; omega
theorem zero_strs (w : World) : (zeroValue 31).run Tryz.prog w = .ok (.slice none 0 0) w := Tryz.zeroValue31 w
theorem MpS.lookL {w : World} {b n : Nat} {f : List UInt8 → Option Value} {D : DataW Value} (h : MpS w b n f D) (s : ByteArray) (hs : s.size ≤ maxLen) : (Instr.lookup 67 (.map (some b)) (.string s) false).run Tryz.prog w = .ok ((f s.data.toList).getD (.slice none 0 0)) w := by
  obtain ⟨v, ps, hrun, hv⟩ := h.own.lookup (string_keyed Tryz.underlying9) Tryz.underlying67 (zero_strs w) (zd := nilV) (zp := []) rfl (WideMaps.keyOf_string_mk Tryz.underlying9 hs)
  rw [h.at'] at hv
  unfold heldV at hv
  simp only [Option.some.injEq, Prod.mk.injEq, DataW.held.injEq] at hv
  rw [hrun, hv.1]
/-- at block b stands a map that tells of each name some names -/
def LAt (w : World) (b n : Nat) (S : Nat → Prop) (L : ByteArray → List ByteArray) : Prop := ∃ (f : List UInt8 → Option Value) (D : DataW Value), MpS w b n f D ∧ ∀ x : ByteArray, NsAt w S ((f x.data.toList).getD (.slice none 0 0)) (L x) ∧ (L x = [] → f x.data.toList = none)
theorem LAt.keep {w W : World} {b n : Nat} {S S' : Nat → Prop} {L : ByteArray → List ByteArray} (h : LAt w b n S L) (hb : W.row b = w.row b) (hw : ∀ g, S g → g < w.heap.size → W.row g = w.row g ∧ S' g) : LAt W b n S' L := by
  obtain ⟨f, D, h1, h2⟩ := h
  exact ⟨f, D, h1.row hb, fun x => ⟨(h2 x).1.keep hw fun _ _ _ h => h, (h2 x).2⟩⟩
theorem LAt.grows {w W : World} {b n : Nat} {S : Nat → Prop} {L : ByteArray → List ByteArray} (h : LAt w b n S L) (hg : w.grows W) : LAt W b n S L := by
  obtain ⟨f, D, h1, h2⟩ := h
  exact ⟨f, D, h1.grows hg, fun x => ⟨(h2 x).1.grows hg fun _ _ _ h => h, (h2 x).2⟩⟩
/-- the same, while the names of one name are found -/
def LIn (w : World) (b n : Nat) (S : Nat → Prop) (L : ByteArray → List ByteArray) (nm : ByteArray) (M : Nat) (vc : Value) (o : List ByteArray) : Prop := ∃ (f : List UInt8 → Option Value) (D : DataW Value), MpS w b n f D ∧ (f nm.data.toList).getD (.slice none 0 0) = vc ∧ NmO w M vc o ∧ (o = [] → f nm.data.toList = none) ∧ ∀ x : ByteArray, x ≠ nm → NsAt w S ((f x.data.toList).getD (.slice none 0 0)) (L x) ∧ (L x = [] → f x.data.toList = none)
theorem LAt.open {w W : World} {b n : Nat} {S S' : Nat → Prop} {L : ByteArray → List ByteArray} (h : LAt w b n S L) {nm : ByteArray} (hn : L nm = []) (hb : W.row b = w.row b) (hw : ∀ g, S g → g < w.heap.size → W.row g = w.row g ∧ S' g) (M : Nat) : LIn W b n S' L nm M (.slice none 0 0) [] := by
  obtain ⟨f, D, h1, h2⟩ := h
  have e := (h2 nm).2 hn
  exact ⟨f, D, h1.row hb, by rw [e]; rfl, by simpa [NmO] using World.ownsRow_nil _ _ _ _, fun _ => e, fun x _ => ⟨(h2 x).1.keep hw fun _ _ _ h => h, (h2 x).2⟩⟩
theorem LIn.keep {w W : World} {b n M : Nat} {S S' : Nat → Prop} {L : ByteArray → List ByteArray} {nm : ByteArray} {vc : Value} {o : List ByteArray} (h : LIn w b n S L nm M vc o) (hb : W.row b = w.row b) (hv : ∀ g, vc.ownBlock = some g → W.row g = w.row g) (hw : ∀ g, S g → g < w.heap.size → W.row g = w.row g ∧ S' g) : LIn W b n S' L nm M vc o := by
  obtain ⟨f, D, h1, h2, h3, h4, h5⟩ := h
  exact ⟨f, D, h1.row hb, h2, ownsRow_rowV h3 hv, h4, fun x hx => ⟨(h5 x hx).1.keep hw fun _ _ _ h => h, (h5 x hx).2⟩⟩
theorem LIn.grows {w W : World} {b n M : Nat} {S : Nat → Prop} {L : ByteArray → List ByteArray} {nm : ByteArray} {vc : Value} {o : List ByteArray} (h : LIn w b n S L nm M vc o) (hg : w.grows W) : LIn W b n S L nm M vc o := by
  obtain ⟨f, D, h1, h2, h3, h4, h5⟩ := h
  exact ⟨f, D, h1.grows hg, h2, World.ownsRow.grows h3 hg, h4, fun x hx => ⟨(h5 x hx).1.grows hg fun _ _ _ h => h, (h5 x hx).2⟩⟩
theorem LIn.shut {w : World} {b n M : Nat} {S S' : Nat → Prop} {L L' : ByteArray → List ByteArray} {nm : ByteArray} {vc : Value} {o : List ByteArray} (h : LIn w b n S L nm M vc o) (hs : ∀ s ∈ o, s.size ≤ maxLen) (ho : L' nm = o) (hl : ∀ x, x ≠ nm → L' x = L x) (hw : ∀ g, S g → S' g) (hv : ∀ g, M ≤ g → g < w.heap.size → S' g) : LAt w b n S' L' := by
  obtain ⟨f, D, h1, h2, h3, h4, h5⟩ := h
  refine ⟨f, D, h1, fun x => ?_⟩
  by_cases hx : x = nm
  · subst hx
    rw [ho, h2]
    exact ⟨h3.nsAt hs fun g hg => hv g (h3.lt g hg).1 (h3.lt g hg).2, h4⟩
  · rw [hl x hx]
    exact ⟨(h5 x hx).1.keep (fun g hg _ => ⟨rfl, hw g hg⟩) fun _ _ _ h => h, (h5 x hx).2⟩
theorem ba_ne {x y : ByteArray} (h : x ≠ y) : x.data.toList ≠ y.data.toList := fun e => h (by
  obtain ⟨x⟩ := x; obtain ⟨y⟩ := y
  have : x = y := Array.toList_inj.1 e
  rw [this])
end Go.Proofs.YthcaphoejplecaaGreatDoor

/- WALK over vars: who leans on himself. No condition but bounds. -/
namespace Go
open Classical in
/-- of the names that were looked at, those that each leans on -/
noncomputable def partL (k : Known) (l : List ByteArray) (x : ByteArray) : List ByteArray := if x ∈ l then leansL k x else []
theorem partL_nil (k : Known) : partL k [] = fun _ => [] := by funext x; unfold partL; rw [if_neg (by simp)]
theorem partL_in {k : Known} {l : List ByteArray} {x : ByteArray} (h : x ∈ l) : partL k l x = leansL k x := if_pos h
theorem partL_out {k : Known} {l : List ByteArray} {x : ByteArray} (h : x ∉ l) : partL k l x = [] := if_neg h
theorem filter_take {α : Type} {p : α → Bool} {l : List α} {j : Nat} {x : α} (h : l[j]? = some x) : (l.take (j + 1)).filter p = if p x = true then (l.take j).filter p ++ [x] else (l.take j).filter p := by
  rw [List.take_add_one, h, List.filter_append]
  cases hp : p x <;> simp [hp]
theorem mem_take_succ {α : Type} {l : List α} {i : Nat} {x y : α} (h : l[i]? = some x) : y ∈ l.take (i + 1) ↔ y ∈ l.take i ∨ y = x := by
  rw [List.take_add_one, h]; simp
end Go
namespace Go.Proofs.YthcaphoejplecaaGreatDoor
open Go.RowKit Go.Maps
/-- how rings ends -/
def RingPost (w : World) (k : Known) (e : Ending) (w' : World) : Prop := ∃ (b n : Nat) (f : List UInt8 → Option Value) (D : DataW Value), e = .returned (.map (some b)) ∧ w.grows w' ∧ w.heap.size ≤ b ∧ n ≤ 64 ∧ MpI w' b n f D ∧ ∀ nm : ByteArray, (f nm.data.toList = some (.int .i64 1) ∧ Leans k nm nm) ∨ (f nm.data.toList = none ∧ ¬ Leans k nm nm)
/-- how many names are not met -/
def um (met : ByteArray → Bool) (bs : List ByteArray) : Nat := (bs.filter fun x => !met x).length
theorem um_le (met : ByteArray → Bool) (bs : List ByteArray) : um met bs ≤ bs.length := List.length_filter_le _ _
theorem um_new {met : ByteArray → Bool} {bs : List ByteArray} {x : ByteArray} (h : met x = false) (hx : x ∈ bs) : um (fun y => if y = x then true else met y) bs + 1 ≤ um met bs := by
  refine cntLt bs (fun y _ hy => ?_) x hx (by simp) (by simp [h])
  by_cases e : y = x
  · simp [e] at hy
  · simpa [e] using hy
/-- the search for a ring, in memory -/
structure RSt (w2 w5 w6 wj : World) (k : Known) (bs : List ByteArray) (nm : ByteArray) (bo bm : Nat) (fo : List UInt8 → Option Value) (i : Nat) (v : Value) (o : List ByteArray) (met : ByteArray → Bool) (found : Bool) : Prop where
  g2 : w2.grows wj
  gb : w5.grownBy wj (some bo)
  sz : w6.heap.size ≤ wj.heap.size
  rows : ∀ g, g < w6.heap.size → g ≠ bo → g ≠ bm → wj.row g = w6.row g
  out : ∃ (n1 : Nat) (D1 : DataW Value), MpI wj bo n1 (if found = true then fun x => if x = nm.data.toList then some (.int .i64 1) else fo x else fo) D1 ∧ n1 ≤ i + (if found = true then 1 else 0)
  mp : ∃ (n1 : Nat) (f1 : List UInt8 → Option Value) (D1 : DataW Value), MpI wj bm n1 f1 D1 ∧ n1 + um met bs ≤ 65 ∧ ∀ x : ByteArray, f1 x.data.toList = if met x = true then some (.int .i64 1) else none
  own : NmO wj w6.heap.size v o
  osz : ∀ x ∈ o, x.size ≤ maxLen
  len : o.length + um met bs * 64 ≤ 64 * 66
  dv : found = false → DInv k nm met o
  fd : found = true → Leans k nm nm
theorem RSt.grows {w2 w5 w6 wj W : World} {k : Known} {bs : List ByteArray} {nm : ByteArray} {bo bm : Nat} {fo : List UInt8 → Option Value} {i : Nat} {v : Value} {o : List ByteArray} {met : ByteArray → Bool} {found : Bool} (h : RSt w2 w5 w6 wj k bs nm bo bm fo i v o met found) (hg : wj.grows W) : RSt w2 w5 w6 W k bs nm bo bm fo i v o met found := by
  obtain ⟨n1, D1, h1, h2⟩ := h.out
  obtain ⟨n2, f2, D2, h3, h4, h5⟩ := h.mp
  have hs := h.sz
  exact ⟨h.g2.trans hg, grownBy_trans h.gb (grownBy_of_grows hg none) (fun q hq => by cases hq), Nat.le_trans hs hg.below.size, fun g a b c => (hg.row_eq (by omega)).trans (h.rows g a b c), ⟨n1, D1, h1.grows hg, h2⟩, ⟨n2, f2, D2, h3.grows hg, h4, h5⟩, World.ownsRow.grows h.own hg, h.osz, h.len, h.dv, h.fd⟩
theorem RSt.pop {w2 w5 w6 wj : World} {k : Known} {bs : List ByteArray} {nm : ByteArray} {bo bm : Nat} {fo : List UInt8 → Option Value} {i c : Nat} {a : Option Addr} {o : List ByteArray} {x : ByteArray} {met : ByteArray → Bool} (h : RSt w2 w5 w6 wj k bs nm bo bm fo i (.slice a (o.length + 1) c) (o ++ [x]) met false) (hx : met x = true) : RSt w2 w5 w6 wj k bs nm bo bm fo i (.slice a o.length c) o met false :=
  ⟨h.g2, h.gb, h.sz, h.rows, h.out, h.mp, h.own.short, fun y hy => h.osz y (by simp [hy]), by have := h.len; simp at this; omega, fun e => (h.dv e).old hx, h.fd⟩
def muS (found : Bool) (met : ByteArray → Bool) (bs o : List ByteArray) : Nat := if found = true then 0 else um met bs * 65 + o.length + 1
theorem LAt.start {w : World} {S : Nat → Prop} : LAt (w.alloc (Obj.map #[] 0)) w.heap.size 0 S (fun _ => []) := ⟨_, _, MpS.made w, fun x => ⟨SlAt_nil _ _ _ _, fun _ => rfl⟩⟩
set_option maxRecDepth 100000 in
set_option maxHeartbeats 8000000 in
theorem rings_any {w : World} {b n : Nat} {k : Known} {S : Nat → Prop} (h : ByAt w S b k n) (hn : n ≤ 64) :
    Calls Tryz.prog 14 #[.map (some b)] w (RingPost w k) := by
  obtain ⟨f0, D0, hm, hk⟩ := h
  have HM := Lib.hid hm
  have HK := Lib.hid hk
  have HS := Lib.hid (sortedV_any hm (Nat.le_trans hn (by decide)))
  clear hm hk
  have hmk := fun (W : World) => run_makeMap (P := Tryz.prog) 67 W
  go_enter Tryz.func14, Tryz.ntmps14
  go_upto_region 2 with (first | (go_at_call 19; go_loud ((with_reducible refine (keysV_any _ _).mono ?_); rintro e w' ⟨rfl, rfl⟩)) | (go_at_call 18; go_loud ((with_reducible refine HS.out.mono ?_); rintro e w2 ⟨vB, bs, rfl, hg2, HB, hN⟩; (obtain ⟨aB, cB, rfl, -, -⟩ := hN.len); (have HN := Lib.hid hN); clear hN)))
  go_upto_region 3 with fail
  clear hmk
  have hgA : w2.grows (w2.alloc (.map #[] 0)) := (by repeat (with_reducible first | assumption | exact grA | apply grB | apply grC | apply grD | refine grE ?_ (by omega) _ | refine grF ?_ (by omega) _ _))
  have hsA : (w2.alloc (.map #[] 0)).heap.size = w2.heap.size + 1 := by simp
  have HL0 : Hid (LAt (w2.alloc (.map #[] 0)) w2.heap.size 0 (fun g => g < (w2.alloc (.map #[] 0)).heap.size ∧ g ≠ w2.heap.size) (partL k (bs.take 0)) ∧ w2.heap.size < (w2.alloc (.map #[] 0)).heap.size) := Lib.hid ⟨by rw [List.take_zero, partL_nil]; exact LAt.start, by omega⟩
  generalize w2.alloc (.map #[] 0) = w3 at *
  obtain ⟨bl, hbl⟩ : ∃ bl, w2.heap.size = bl := ⟨_, rfl⟩
  have HBL := Lib.hid hbl
  rw [hbl] at HL0
  rw [hbl]
  clear hbl hsA
  go_wp2_with fail
  go_loopg [23] bs.length (fun gn v23 wj => ∃ i nl : Nat, Hid (gn + i = bs.length ∧ i ≤ bs.length ∧ nl ≤ 4194304 * i) ∧ v23 = .int .i64 i ∧ w2.grows wj ∧ Hid (LAt wj bl nl (fun g => g < wj.heap.size ∧ g ≠ bl) (partL k (bs.take i)) ∧ bl < wj.heap.size))
  case atStart => exact ⟨0, 0, Lib.hid ⟨by simp, Nat.zero_le _, Nat.le_refl _⟩, by go_num, hgA, HL0⟩
  case round =>
    obtain ⟨i, nl, HQ, rfl, hgj, HL⟩ := hrel
    obtain ⟨j1, j2, j3⟩ := HQ.out
    have hbn := HB.out.2.2
    by_cases hlt : i < bs.length
    · have iI : (i : Int) < (bs.length : Int) := by omega
      have ii0 : (0 : Int) ≤ (i : Int) := by omega
      have iw : IntKind.i64.wrap ((i : Int) + 1) = (i : Int) + 1 := by rw [IntKind.wrap_i64]; omega
      have hgt : bs[i]? = some bs[i] := List.getElem?_eq_getElem hlt
      obtain ⟨g, off, cs, rfl, -, -, k1, rfl, hsz⟩ := HN.out.elt hgt
      have HGT := Lib.hid hgt
      have hkn : k bs[i] ≠ none := by
        have h1 := (HB.out.2.1 bs[i]).1 (List.getElem_mem hlt)
        have h2 := HK.out bs[i]
        intro e; rw [e] at h2; exact h1 h2
      generalize bs[i] = nm at *
      have k2 := k1.grows hgj
      have z3 := lt_sz k2.lt
      have c0 := k2.cell (j := 0) rfl
      rw [World.cell?_row, Nat.add_zero, Nat.mul_one] at c0
      obtain ⟨ts, hts⟩ : ∃ ts, k nm = some ts := by
        cases hk : k nm with
        | none => exact absurd hk hkn
        | some ts => exact ⟨ts, rfl⟩
      have HKN := Lib.hid hts
      have hkx := HK.out nm
      rw [hts] at hkx
      obtain ⟨u, hfu, htk, htl⟩ := hkx
      obtain ⟨aT, cT, rfl, -, -⟩ := htk.len
      have hlk : (Instr.lookup 36 (.map (some b)) (.string nm) false).run Tryz.prog wr = .ok (.slice aT ts.length cT) wr := by
        rw [(HM.out.grows (hg2.trans hgj)).look nm hsz, hfu]; rfl
      have HUS := Lib.hid (fun (W : World) (hg : w.grows W) => vUses_any (htk.keep (fun g _ hl => ⟨hg.row_eq hl, trivial⟩) fun _ _ _ h => h) htl)
      have HSM := Lib.hid (usesT_small (l := ts) fun t ht => (tks_cells htk).2.1 t ht)
      have HUL := Lib.hid (Nat.le_trans (usesT_len (l := ts)) htl)
      have HLE := Lib.hid (show leansL k nm = (usesT ts).filter fun u => (k u).isSome by unfold leansL; rw [hts])
      clear k1 k2 hkn hts hfu htk htl hgt
      generalize usesT ts = us at *
      go_wp2_with (go_at_call 16; go_loud ((with_reducible refine (HUS.out _ ((hg2.trans hgj).trans (by repeat (with_reducible first | assumption | exact grA | apply grB | apply grC | apply grD | refine grE ?_ (by omega) _ | refine grF ?_ (by omega) _ _)))).mono ?_); rintro r w4 ⟨v4, rfl, hg4, hn4⟩; replace hn4 := own_lower (World.grows.below (show wr.grows _ from (by repeat (with_reducible first | assumption | exact grA | apply grB | apply grC | apply grD | refine grE ?_ (by omega) _ | refine grF ?_ (by omega) _ _)))).size hn4; (obtain ⟨a4, c4, rfl⟩ := own_slice hn4)))
      have hgx : wr.grows w4 := World.grows.trans (by repeat (with_reducible first | assumption | exact grA | apply grB | apply grC | apply grD | refine grE ?_ (by omega) _ | refine grF ?_ (by omega) _ _)) hg4
      have hs4 := hgx.below.size
      have hgw4 := hgj.trans hgx
      have hnl := HL.out.2
      have hLin : LIn w4 bl nl (fun g => g < w4.heap.size ∧ g ≠ bl) (partL k (bs.take i)) nm w4.heap.size (.slice none 0 0) [] := HL.out.1.open (partL_out fun hin => by
        obtain ⟨q, hq, e⟩ := List.mem_iff_getElem.1 hin
        have hq2 : q < i := by simp at hq; omega
        have h1 := List.pairwise_iff_getElem.1 HB.out.1 q i (by omega) hlt hq2
        rw [List.getElem_take] at e
        have e2 := HGT.out
        rw [List.getElem?_eq_getElem hlt] at e2
        injection e2 with e2
        rw [e, e2] at h1
        exact u8_irrefl _ h1) (hgx.row_eq hnl) (fun g hg hl => ⟨hgx.row_eq hl, by omega, hg.2⟩) _
      have HIN : Hid (w4.grownBy w4 (some bl) ∧ LIn w4 bl nl (fun g => g < w4.heap.size ∧ g ≠ bl) (partL k (bs.take i)) nm w4.heap.size (.slice none 0 0) [] ∧ ([] : List ByteArray) = (us.take 0).filter (fun u => (k u).isSome) ∧ nl ≤ 4194304 * i + 0) := Lib.hid ⟨grownBy_of_grows World.grows.refl _, hLin, by simp, j3⟩
      have HXC := Lib.hid (NmO.cell hn4)
      have HNL := Lib.hid (fun g hg => show bl < g ∧ g < w4.heap.size by have := hn4.lt g hg; omega)
      have hul := HUL.out
      clear hLin HL hn4
      go_loopg [32] us.length (fun gn v32 wj => ∃ (j nl2 : Nat) (vc : Value) (o : List ByteArray), Hid (gn + j = us.length ∧ j ≤ us.length) ∧ v32 = .int .i64 j ∧ w2.grows wj ∧ Hid (w4.grownBy wj (some bl) ∧ LIn wj bl nl2 (fun g => g < w4.heap.size ∧ g ≠ bl) (partL k (bs.take i)) nm w4.heap.size vc o ∧ o = (us.take j).filter (fun u => (k u).isSome) ∧ nl2 ≤ 4194304 * i + j))
      case atStart => exact ⟨0, nl, _, _, Lib.hid ⟨by simp, Nat.zero_le _⟩, by go_num, hgw4.trans (by repeat (with_reducible first | assumption | exact grA | apply grB | apply grC | apply grD | refine grE ?_ (by omega) _ | refine grF ?_ (by omega) _ _)), HIN⟩
      case round =>
        obtain ⟨j, nl2, vc, o, HQ2, rfl, hgj2, HI⟩ := hrel
        obtain ⟨p1, p2⟩ := HQ2.out
        obtain ⟨hgb, hin, ho, hn2⟩ := HI.out
        have hgw := hg2.trans hgj2
        by_cases hj : j < us.length
        · have jI : (j : Int) < (us.length : Int) := by omega
          have jj0 : (0 : Int) ≤ (j : Int) := by omega
          have jw : IntKind.i64.wrap ((j : Int) + 1) = (j : Int) + 1 := by rw [IntKind.wrap_i64]; omega
          obtain ⟨u, hu⟩ : ∃ u, us[j]? = some u := ⟨_, List.getElem?_eq_getElem hj⟩
          have husz := HSM.out u (List.mem_of_getElem? hu)
          have HFT := Lib.hid (filter_take (p := fun u => (k u).isSome) hu)
          rcases HXC.out with h0 | ⟨gX, cX, e, hgl, hcell⟩
          · rw [h0] at hj; simp at hj
          injection e with e1 e2 e3
          subst e1
          subst e3
          have hgX := (HNL.out gX rfl).1
          have cc := hcell j u hu
          rw [← row_growV hgb hgl (fun e => by injection e with e; omega)] at cc
          have zX := lt_sz (Nat.lt_of_lt_of_le hgl hgb.size)
          have hlo := (HM.out.grows hgw).look_ok u husz
          have hkx := HK.out u
          have HIN2 := Lib.hid hin
          have HO2 := Lib.hid ho
          have HGB := Lib.hid hgb
          have hsz4 := hgb.size
          clear hcell hu hin ho e2 HIN hgb HI
          cases hku : k u with
          | none =>
            rw [hku] at hkx
            rw [hkx] at hlo
            simp only [Option.getD_none, Option.isSome_none] at hlo
            have HKU := Lib.hid hku
            clear hkx hku
            go_wp2_with fail
            go_roundg (us.length - (j + 1))
            case measure => omega
            case rel =>
              refine ⟨j + 1, nl2, vc, o, Lib.hid ⟨by omega, by omega⟩, by go_num, hgj2.trans (by repeat (with_reducible first | assumption | exact grA | apply grB | apply grC | apply grD | refine grE ?_ (by omega) _ | refine grF ?_ (by omega) _ _)), Lib.hid ⟨grownBy_trans HGB.out (grownBy_of_grows (by repeat (with_reducible first | assumption | exact grA | apply grB | apply grC | apply grD | refine grE ?_ (by omega) _ | refine grF ?_ (by omega) _ _)) none) (fun k hk => by cases hk), HIN2.out.grows (by repeat (with_reducible first | assumption | exact grA | apply grB | apply grC | apply grD | refine grE ?_ (by omega) _ | refine grF ?_ (by omega) _ _)), ?_, by omega⟩⟩
              rw [HFT.out, HKU.out]; exact HO2.out
          | some tu =>
            rw [hku] at hkx
            obtain ⟨uu, hfu, -, -⟩ := hkx
            rw [hfu] at hlo
            simp only [Option.getD_some, Option.isSome_some] at hlo
            have HKU := Lib.hid hku
            obtain ⟨f, D, m1, m2, m3, m4, m5⟩ := HIN2.out
            obtain ⟨a1, c1, rfl⟩ := own_slice m3
            have hlL := m1.lookL nm hsz
            rw [m2] at hlL
            have M1 := Lib.hid m1
            have M3 := Lib.hid m3
            have M5 := Lib.hid m5
            clear hku m1 m2 m3 m4 m5 hfu
            have hbw2 := HBL.out
            have hgs2 := hgj2.below.size
            have hMw2 : w2.heap.size ≤ w4.heap.size := hgw4.below.size
            have hol : o.length ≤ 4194304 := by
              rw [HO2.out]
              exact Nat.le_trans (List.length_filter_le _ _) (by simp; omega)
            have hbl1 := M1.out.own.lt
            have nb1 : ∀ q, (Value.slice a1 o.length c1).ownBlock = some q → q ≠ bl := fun q hq e => by have := (M3.out.lt q hq).1; omega
            have hgX2 : (Value.slice a1 o.length c1).ownBlock ≠ some gX := fun e => by have := (M3.out.lt gX e).1; omega
            go_upto_region 12 with (first | ((at_builtin; refine wpList_app w2 (w4.heap.size) rfl (.tmp 47) (.tmp 49) _ rfl 9 (.string ByteArray.empty) 1 16 Tryz.underlying31 (by kernel_rfl) rfl (by omega) (by omega) _ o.length _ rfl ((World.ownsRow.grows M3.out (by repeat (with_reducible first | assumption | exact grA | apply grB | apply grC | apply grD | refine grE ?_ (by omega) _ | refine grF ?_ (by omega) _ _)))) _ 1 _ [.string u] rfl rfl (cells_of_row (e := 9) (fr := (0, 0)) (by simp [go_sem])) (by simp [Value.oneCell']) (by omega) (by repeat (with_reducible first | assumption | exact grA | apply grB | apply grC | apply grD | refine grE ?_ (by omega) _ | refine grF ?_ (by omega) _ _)) (by omega) (by first | omega | (simp <;> omega)) ?_; intro v' w' hg' HO' HR' HG' HA'); (obtain ⟨a9, c9, rfl⟩ := own_slice HO'.out); (have hb9 := (row_growV HG'.out (Nat.lt_of_lt_of_le hbl1 (World.grows.below (show wr.grows _ from (by repeat (with_reducible first | assumption | exact grA | apply grB | apply grC | apply grD | refine grE ?_ (by omega) _ | refine grF ?_ (by omega) _ _)))).size) (fun e => nb1 _ e.symm rfl)).trans ((show wr.grows _ from (by repeat (with_reducible first | assumption | exact grA | apply grB | apply grC | apply grD | refine grE ?_ (by omega) _ | refine grF ?_ (by omega) _ _))).row_eq hbl1)); (have hM9 := M1.out.row hb9)) | (at_mapUpdate; go_loud (refine wpList_mapUpdate_own _ rfl (.tmp 43) (.tmp 44) (.tmp 50) 67 rfl 9 31 (string_keyed Tryz.underlying9) Tryz.underlying67 heldV bl nl2 D rfl hM9.own (by simp only [maxLen]; omega) (.string nm) (.slice a9 (o.length + 1) c9) (.string nm.data.toList) rfl rfl (WideMaps.keyOf_string_mk Tryz.underlying9 hsz) (.held (.slice a9 (o.length + 1) c9)) [] rfl ?_); intro w6 hown6 hgr6))
            have hGG : wr.grownBy w' (Value.slice a1 o.length c1).ownBlock := grownBy_trans (grownBy_of_grows (by repeat (with_reducible first | assumption | exact grA | apply grB | apply grC | apply grD | refine grE ?_ (by omega) _ | refine grF ?_ (by omega) _ _)) _) HG'.out (fun q hq => .inl hq)
            have hs6 := hGG.size
            have hg6 : w2.grows w6 := World.grows.grown hg' hgr6 (fun q hq => by injection hq with hq; omega)
            have hrow6 : ∀ g, g < w4.heap.size → g ≠ bl → w6.row g = wr.row g := fun g h1 h2 => by
              rw [row_growV hgr6 (by omega) (fun e => h2 (by injection e)), row_growV hGG (by omega) (fun e => by have := (M3.out.lt g e.symm).1; omega)]
            have HI6 : Hid (LIn w6 bl (nl2 + 1) (fun g => g < w4.heap.size ∧ g ≠ bl) (partL k (bs.take i)) nm w4.heap.size (.slice a9 (o.length + 1) c9) (o ++ [u])) := by
              refine Lib.hid ⟨_, _, hM9.put hown6, by simp, ?_, fun h => by simp at h, fun x hx => ?_⟩
              · have h9 : NmO w' w4.heap.size (.slice a9 (o.length + 1) c9) (o ++ [u]) := by
                  unfold NmO
                  rw [List.length_append, List.map_append]
                  exact HO'.out
                exact ownsRow_rowV h9 fun q hq => row_growV hgr6 (h9.lt q hq).2 (fun e => by have := (h9.lt q hq).1; injection e with e; omega)
              · simp only [if_neg (ba_ne hx)]
                exact ⟨(M5.out x hx).1.keep (fun g hg hl => ⟨hrow6 g hg.1 hg.2, hg⟩) fun _ _ _ h => h, (M5.out x hx).2⟩
            have HGB6 := Lib.hid (grownBy_trans (grownBy_trans HGB.out hGG (fun q hq => .inr (M3.out.lt q hq).1)) hgr6 (fun q hq => .inl hq))
            have HFO : Hid (o ++ [u] = (us.take (j + 1)).filter (fun u => (k u).isSome)) := Lib.hid (by rw [HFT.out, HKU.out]; simp only [Option.isSome_some, if_true]; rw [← HO2.out])
            clear HG' HO' HR' HA' hg' hgr6 hown6 hM9 hrow6 M1 M3 M5 HIN2 hGG
            go_wp2_with fail
            go_roundg (us.length - (j + 1))
            case measure => omega
            case rel =>
              exact ⟨j + 1, nl2 + 1, _, o ++ [u], Lib.hid ⟨by omega, by omega⟩, by go_num, hg6.trans (by repeat (with_reducible first | assumption | exact grA | apply grB | apply grC | apply grD | refine grE ?_ (by omega) _ | refine grF ?_ (by omega) _ _)), Lib.hid ⟨grownBy_trans HGB6.out (grownBy_of_grows (by repeat (with_reducible first | assumption | exact grA | apply grB | apply grC | apply grD | refine grE ?_ (by omega) _ | refine grF ?_ (by omega) _ _)) none) (fun q hq => by cases hq), HI6.out.grows (by repeat (with_reducible first | assumption | exact grA | apply grB | apply grC | apply grD | refine grE ?_ (by omega) _ | refine grF ?_ (by omega) _ _)), HFO.out, by omega⟩⟩
        · have jI : ¬ (j : Int) < (us.length : Int) := by omega
          obtain rfl : j = us.length := by omega
          rw [List.take_length] at ho
          have hsz4 := hgb.size
          have hbl2 := hin
          obtain ⟨f, D, m1, -⟩ := hbl2
          have hblt := m1.own.lt
          have hle : o.length ≤ 4194304 := by
            rw [ho]; exact Nat.le_trans (List.length_filter_le _ _) hul
          have hLN : Hid (LAt wr bl nl2 (fun g => g < wr.heap.size ∧ g ≠ bl) (partL k (bs.take (i + 1)))) := by
            refine Lib.hid (hin.shut (fun s hs => HSM.out s ?_) ?_ (fun x hx => ?_) (fun g hg => ⟨by omega, hg.2⟩) fun g h1 h2 => ⟨h2, by omega⟩)
            · rw [ho] at hs; exact (List.mem_filter.1 hs).1
            · rw [partL_in ((mem_take_succ HGT.out).2 (.inr rfl)), HLE.out, ho]
            · by_cases hin2 : x ∈ bs.take i
              · rw [partL_in hin2, partL_in ((mem_take_succ HGT.out).2 (.inl hin2))]
              · rw [partL_out hin2, partL_out fun h => by
                  rcases (mem_take_succ HGT.out).1 h with h | h
                  · exact hin2 h
                  · exact hx h]
          clear hin ho hgb HI m1
          go_wp2_with fail
          go_roundg (bs.length - (i + 1))
          case measure => omega
          case rel =>
            refine ⟨i + 1, nl2, Lib.hid ⟨by omega, by omega, by omega⟩, by go_num, hgj2.trans (by repeat (with_reducible first | assumption | exact grA | apply grB | apply grC | apply grD | refine grE ?_ (by omega) _ | refine grF ?_ (by omega) _ _)), Lib.hid ⟨?_, Nat.lt_of_lt_of_le hblt (World.grows.below (by repeat (with_reducible first | assumption | exact grA | apply grB | apply grC | apply grD | refine grE ?_ (by omega) _ | refine grF ?_ (by omega) _ _))).size⟩⟩
            have h9 := hLN.out.grows (show wr.grows _ from (by repeat (with_reducible first | assumption | exact grA | apply grB | apply grC | apply grD | refine grE ?_ (by omega) _ | refine grF ?_ (by omega) _ _)))
            exact h9.keep rfl fun g hg hl => ⟨rfl, hl, hg.2⟩
    · have iI : ¬ (i : Int) < (bs.length : Int) := by omega
      obtain rfl : i = bs.length := by omega
      have hin : ∀ x, k x ≠ none → x ∈ bs := fun x hx => by
        refine (HB.out.2.1 x).2 fun e => hx ?_
        have h2 := HK.out x
        cases hkx : k x with
        | none => rfl
        | some ts =>
          rw [hkx] at h2
          obtain ⟨u, h3, _⟩ := h2
          rw [e] at h3; cases h3
      have hPL : partL k bs = leansL k := by
        funext x
        by_cases hx : x ∈ bs
        · exact partL_in hx
        · rw [partL_out hx]
          have : k x = none := by
            cases hkx : k x with
            | none => rfl
            | some ts => exact absurd (hin x (by rw [hkx]; simp)) hx
          unfold leansL; rw [this]
      have HLE := Lib.hid (leansL_le hin)
      have HIN := Lib.hid hin
      have HLL : Hid (LAt wr bl nl (fun g => g < wr.heap.size ∧ g ≠ bl) (leansL k) ∧ bl < wr.heap.size) := Lib.hid (by have := HL.out; rw [List.take_length, hPL] at this; exact this)
      have hmk2 := fun (W : World) => run_makeMap (P := Tryz.prog) 38 W
      clear hin hPL HL
      go_upto_region 15 with fail
      have hMO : MpI (wr.alloc (.map #[] 0)) wr.heap.size 0 (fun _ => none) (.map []) := MpI.made wr
      have hg5 : wr.grows (wr.alloc (.map #[] 0)) := (by repeat (with_reducible first | assumption | exact grA | apply grB | apply grC | apply grD | refine grE ?_ (by omega) _ | refine grF ?_ (by omega) _ _))
      have hsz5 : (wr.alloc (.map #[] 0)).heap.size = wr.heap.size + 1 := by simp
      have hgw5 := hgj.trans hg5
      generalize wr.alloc (.map #[] 0) = w5 at *
      obtain ⟨bo, hbo⟩ : ∃ bo, wr.heap.size = bo := ⟨_, rfl⟩
      have hbo2 : w2.heap.size ≤ bo := by have := hgj.below.size; omega
      have hbl5 : bl < bo := by have := HLL.out.2; omega
      have HL5 := Lib.hid ((HLL.out.1.grows hg5).keep (S' := fun g => g < bo ∧ g ≠ bl) rfl fun g hg hl => ⟨rfl, by omega, hg.2⟩)
      rw [hbo] at hMO
      rw [hbo]
      have HMO := Lib.hid hMO
      clear hMO HLL
      go_wp2_with fail
      go_loopg [56] bs.length (fun gn v56 wj => ∃ (i no : Nat) (fo : List UInt8 → Option Value) (Do : DataW Value), Hid (gn + i = bs.length ∧ i ≤ bs.length) ∧ v56 = .int .i64 i ∧ w2.grows wj ∧ Hid (w5.grownBy wj (some bo) ∧ MpI wj bo no fo Do ∧ no ≤ i ∧ ∀ x : ByteArray, (fo x.data.toList = some (.int .i64 1) ∧ x ∈ bs.take i ∧ Leans k x x) ∨ (fo x.data.toList = none ∧ ¬ (x ∈ bs.take i ∧ Leans k x x))))
      case atStart => exact ⟨0, 0, _, _, Lib.hid ⟨by simp, Nat.zero_le _⟩, by go_num, hgw5.trans (by repeat (with_reducible first | assumption | exact grA | apply grB | apply grC | apply grD | refine grE ?_ (by omega) _ | refine grF ?_ (by omega) _ _)), Lib.hid ⟨grownBy_of_grows (by repeat (with_reducible first | assumption | exact grA | apply grB | apply grC | apply grD | refine grE ?_ (by omega) _ | refine grF ?_ (by omega) _ _)) _, HMO.out.grows (by repeat (with_reducible first | assumption | exact grA | apply grB | apply grC | apply grD | refine grE ?_ (by omega) _ | refine grF ?_ (by omega) _ _)), Nat.le_refl _, fun x => .inr ⟨rfl, fun h => by simp at h⟩⟩⟩
      case round =>
        obtain ⟨i, no, fo, Do, HQ, rfl, hgj2, HI⟩ := hrel
        obtain ⟨j1, j2⟩ := HQ.out
        obtain ⟨hgb, hMo, hno, hfo⟩ := HI.out
        by_cases hlt : i < bs.length
        · have iI : (i : Int) < (bs.length : Int) := by omega
          have ii0 : (0 : Int) ≤ (i : Int) := by omega
          have iw : IntKind.i64.wrap ((i : Int) + 1) = (i : Int) + 1 := by rw [IntKind.wrap_i64]; omega
          have hgt : bs[i]? = some bs[i] := List.getElem?_eq_getElem hlt
          obtain ⟨g, off, cs, rfl, -, -, k1, rfl, hsz⟩ := HN.out.elt hgt
          have HGT := Lib.hid hgt
          have hnin : bs[i] ∉ bs.take i := fun hin => by
            obtain ⟨q, hq, e⟩ := List.mem_iff_getElem.1 hin
            have hq2 : q < i := by simp at hq; omega
            have h1 := List.pairwise_iff_getElem.1 HB.out.1 q i (by omega) hlt hq2
            rw [List.getElem_take] at e
            rw [e] at h1
            exact u8_irrefl _ h1
          have hmem := List.getElem_mem hlt
          generalize bs[i] = nm at *
          have k2 := k1.grows hgj2
          have z3 := lt_sz k2.lt
          have c0 := k2.cell (j := 0) rfl
          rw [World.cell?_row, Nat.add_zero, Nat.mul_one] at c0
          have hfn : fo nm.data.toList = none := by
            rcases hfo nm with h | h
            · exact absurd h.2.1 hnin
            · exact h.1
          have HFO := Lib.hid hfo
          have HFN := Lib.hid hfn
          have HMEM := Lib.hid hmem
          have HGB := Lib.hid hgb
          have HMO2 := Lib.hid (And.intro hMo hno)
          have hs5 := hgb.size
          have HL6 := Lib.hid (HL5.out.keep (W := wr) (S' := fun g => g < bo ∧ g ≠ bl) (row_growV hgb (by omega) (fun e => by injection e with e; omega)) fun g hg hl => ⟨row_growV hgb (by omega) (fun e => by injection e with e; omega), hg⟩)
          clear hfo hnin hgt k1 k2 hgb hMo hno HI hmem hfn
          go_upto_region 19 with fail
          have hMM : MpI (wr.alloc (.map #[] 0)) wr.heap.size 0 (fun _ => none) (.map []) := MpI.made wr
          have hg6 : wr.grows (wr.alloc (.map #[] 0)) := (by repeat (with_reducible first | assumption | exact grA | apply grB | apply grC | apply grD | refine grE ?_ (by omega) _ | refine grF ?_ (by omega) _ _))
          have hsz6 : (wr.alloc (.map #[] 0)).heap.size = wr.heap.size + 1 := by simp
          generalize wr.alloc (.map #[] 0) = w6 at *
          obtain ⟨bm, hbm⟩ : ∃ bm, wr.heap.size = bm := ⟨_, rfl⟩
          have HBM := Lib.hid hbm
          rw [hbm] at hMM
          rw [hbm]
          obtain ⟨f, D, m1, m2⟩ := HL6.out.grows hg6
          have hlk := m1.lookL nm hsz
          have m2n := (m2 nm).1
          obtain ⟨aL, cL, eL, -, -⟩ := m2n.len
          rw [eL] at hlk m2n
          obtain ⟨C1, C2, C3⟩ := ns_cells m2n
          have HC1 := Lib.hid C1
          have HC2 := Lib.hid C2
          have HC3 := Lib.hid C3
          have HMM := Lib.hid hMM
          have HM1 := Lib.hid m1
          have HM2 := Lib.hid m2
          have hll := HLE.out nm
          have hw62 : w2.grows w6 := hgj2.trans hg6
          have hsw62 := hw62.below.size
          have HONE := Lib.hid (one_ns (leansL k nm))
          clear m1 m2 C1 C2 C3 eL m2n hMM
          have hlgen : (leansL k nm).length ≤ 64 := by omega
          go_upto_region 20 with ((at_builtin; refine wpList_appS w2 (w6.heap.size) rfl (.const (.slice none 0 0)) (.tmp 63) _ rfl 9 (.string ByteArray.empty) 1 16 Tryz.underlying31 (by kernel_rfl) rfl (by omega) (by omega) _ 0 _ rfl ((World.ownsRow_nil _ _ _ _)) _ (leansL k nm).length _ ((leansL k nm).map Value.string) rfl HC1.out HC3.out HONE.out (by omega) (by repeat (with_reducible first | assumption | exact grA | apply grB | apply grC | apply grD | refine grE ?_ (by omega) _ | refine grF ?_ (by omega) _ _)) (by omega) (by first | omega | (simp <;> omega)) ?_; intro v' w' hg' HO' HR' HG' HA'); (obtain ⟨a7, c7, rfl⟩ := own_slice HO'.out))
          have hGG : w6.grownBy w' none := grownBy_trans (grownBy_of_grows (by repeat (with_reducible first | assumption | exact grA | apply grB | apply grC | apply grD | refine grE ?_ (by omega) _ | refine grF ?_ (by omega) _ _)) _) HG'.out (fun q hq => .inl hq)
          have hR0 : Hid (RSt w2 w5 w6 w' k bs nm bo bm fo i (.slice a7 (leansL k nm).length c7) (leansL k nm) (fun _ => false) false) := by
            have hmo := HMO2.out.1
            have hbml := HMM.out.own.lt
            refine Lib.hid ⟨hg', grownBy_trans (grownBy_trans HGB.out (grownBy_of_grows hg6 none) (fun q hq => by cases hq)) hGG (fun q hq => by cases hq), hGG.size, fun q h1 _ _ => row_growV hGG h1 (fun e => by cases e), ⟨no, Do, ?_, ?_⟩, ⟨0, fun _ => none, .map [], ?_, ?_, fun x => rfl⟩, ?_, HC2.out, ?_, fun _ => DInv.start k nm, fun e => by cases e⟩
            · simp only [Bool.false_eq_true, if_false]
              exact (hmo.grows hg6).row (row_growV hGG (hmo.grows hg6).own.lt (fun e => by cases e))
            · simpa using HMO2.out.2
            · exact HMM.out.row (row_growV hGG hbml (fun e => by cases e))
            · have := um_le (fun _ => false) bs; omega
            · have := HO'.out
              unfold NmO
              simpa using this
            · have := um_le (fun _ => false) bs; omega
          have hsB := HR'.out
          clear HG' HO' HR' HA' hGG hsB
          have hbo6 : bo < w6.heap.size := by omega
          have hbm6 : bm < w6.heap.size := by omega
          have HBMO := Lib.hid (show bo < bm ∧ bl < bo ∧ w2.heap.size ≤ bo by omega)
          have HLS : Hid (∀ y, ∀ s ∈ leansL k y, s.size ≤ maxLen) := Lib.hid fun y s hs => by
            have h1 := (HM2.out y).1
            obtain ⟨a, c, e, -, -⟩ := h1.len
            rw [e] at h1
            exact (ns_cells h1).2.1 s hs
          have HLX : Hid (∀ (W : World) (y : ByteArray), y.size ≤ maxLen → (∀ q, q < w6.heap.size → q ≠ bo → q ≠ bm → W.row q = w6.row q) → ∃ (aX : Option Addr) (cX : Nat), (Instr.lookup 67 (.map (some bl)) (.string y) false).run Tryz.prog W = .ok (.slice aX (leansL k y).length cX) W ∧ ((leansL k y).map Value.string).length = (leansL k y).length * 1 ∧ ((leansL k y).length = 0 ∨ ∃ ad, aX = some ad ∧ ∀ j u, ((leansL k y).map Value.string)[j]? = some u → W.cell? (ad.add j) = some u)) := Lib.hid fun W y hy hW => by
            have h1 : NsAt W (fun g => g < bo ∧ g ≠ bl) _ _ := (HM2.out y).1.keep (fun q hq hl => ⟨hW q hl (by omega) (by omega), hq⟩) fun _ _ _ h => h
            have h2 := (HM1.out.row (hW bl (by omega) (by omega) (by omega))).lookL y hy
            obtain ⟨a, c, e, -, -⟩ := h1.len
            rw [e] at h1 h2
            obtain ⟨c1, _, c3⟩ := ns_cells h1
            exact ⟨a, c, h2, c1, c3⟩
          go_loopg [15] (muS false (fun _ => false) bs (leansL k nm)) (fun gn v15 wj => ∃ (o : List ByteArray) (met : ByteArray → Bool) (found : Bool) (a : Option Addr) (c : Nat), v15 = .slice a o.length c ∧ Hid (RSt w2 w5 w6 wj k bs nm bo bm fo i (.slice a o.length c) o met found ∧ gn = muS found met bs o))
          case atStart => exact ⟨_, _, false, _, _, rfl, Lib.hid ⟨hR0.out.grows (by repeat (with_reducible first | assumption | exact grA | apply grB | apply grC | apply grD | refine grE ?_ (by omega) _ | refine grF ?_ (by omega) _ _)), rfl⟩⟩
          case round =>
            obtain ⟨o, met, found, a1, c1, rfl, HR⟩ := hrel
            obtain ⟨n1, D1, q1, q2⟩ := HR.out.1.out
            have hlo := q1.look nm hsz
            cases found with
            | true =>
              simp only [if_true, Option.getD_some] at hlo
              have HQ1 := Lib.hid q1
              have HQ2 := Lib.hid q2
              clear q1 q2
              cases o with
              | nil =>
                simp only [List.length_nil]
                go_wp2_with fail
                go_roundg (bs.length - (i + 1))
                case measure => omega
                case rel =>
                  refine ⟨i + 1, n1, fun x => if x = nm.data.toList then some (.int .i64 1) else fo x, D1, Lib.hid ⟨by omega, by omega⟩, by go_num, HR.out.1.g2.trans (by repeat (with_reducible first | assumption | exact grA | apply grB | apply grC | apply grD | refine grE ?_ (by omega) _ | refine grF ?_ (by omega) _ _)), Lib.hid ⟨grownBy_trans HR.out.1.gb (grownBy_of_grows (by repeat (with_reducible first | assumption | exact grA | apply grB | apply grC | apply grD | refine grE ?_ (by omega) _ | refine grF ?_ (by omega) _ _)) none) (fun q hq => by cases hq), HQ1.out.grows (by repeat (with_reducible first | assumption | exact grA | apply grB | apply grC | apply grD | refine grE ?_ (by omega) _ | refine grF ?_ (by omega) _ _)), by have := HQ2.out; simp at this; omega, fun x => ?_⟩⟩
                  by_cases hx : x = nm
                  · subst hx
                    exact .inl ⟨by simp, (mem_take_succ HGT.out).2 (.inr rfl), HR.out.1.fd rfl⟩
                  · simp only [if_neg (ba_ne hx)]
                    rcases HFO.out x with ⟨h1, h2, h3⟩ | ⟨h1, h2⟩
                    · exact .inl ⟨h1, (mem_take_succ HGT.out).2 (.inl h2), h3⟩
                    · refine .inr ⟨h1, fun h => ?_⟩
                      rcases (mem_take_succ HGT.out).1 h.1 with h4 | h4
                      · exact h2 ⟨h4, h.2⟩
                      · exact hx h4
              | cons y o2 =>
                simp only [List.length_cons]
                have hp : (0 : Int) < (o2.length : Int) + 1 := by omega
                go_wp2_with fail
                go_roundg (bs.length - (i + 1))
                case measure => omega
                case rel =>
                  refine ⟨i + 1, n1, fun x => if x = nm.data.toList then some (.int .i64 1) else fo x, D1, Lib.hid ⟨by omega, by omega⟩, by go_num, HR.out.1.g2.trans (by repeat (with_reducible first | assumption | exact grA | apply grB | apply grC | apply grD | refine grE ?_ (by omega) _ | refine grF ?_ (by omega) _ _)), Lib.hid ⟨grownBy_trans HR.out.1.gb (grownBy_of_grows (by repeat (with_reducible first | assumption | exact grA | apply grB | apply grC | apply grD | refine grE ?_ (by omega) _ | refine grF ?_ (by omega) _ _)) none) (fun q hq => by cases hq), HQ1.out.grows (by repeat (with_reducible first | assumption | exact grA | apply grB | apply grC | apply grD | refine grE ?_ (by omega) _ | refine grF ?_ (by omega) _ _)), by have := HQ2.out; simp at this; omega, fun x => ?_⟩⟩
                  by_cases hx : x = nm
                  · subst hx
                    exact .inl ⟨by simp, (mem_take_succ HGT.out).2 (.inr rfl), HR.out.1.fd rfl⟩
                  · simp only [if_neg (ba_ne hx)]
                    rcases HFO.out x with ⟨h1, h2, h3⟩ | ⟨h1, h2⟩
                    · exact .inl ⟨h1, (mem_take_succ HGT.out).2 (.inl h2), h3⟩
                    · refine .inr ⟨h1, fun h => ?_⟩
                      rcases (mem_take_succ HGT.out).1 h.1 with h4 | h4
                      · exact h2 ⟨h4, h.2⟩
                      · exact hx h4
            | false =>
              simp only [Bool.false_eq_true, if_false, HFN.out, Option.getD_none] at hlo
              have HQ1 := Lib.hid q1
              have HQ2 := Lib.hid q2
              clear q1 q2
              rcases List.eq_nil_or_concat o with rfl | ⟨o, x, rfl⟩
              · simp only [List.length_nil]
                go_wp2_with fail
                go_roundg (bs.length - (i + 1))
                case measure => omega
                case rel =>
                  refine ⟨i + 1, n1, fo, D1, Lib.hid ⟨by omega, by omega⟩, by go_num, HR.out.1.g2.trans (by repeat (with_reducible first | assumption | exact grA | apply grB | apply grC | apply grD | refine grE ?_ (by omega) _ | refine grF ?_ (by omega) _ _)), Lib.hid ⟨grownBy_trans HR.out.1.gb (grownBy_of_grows (by repeat (with_reducible first | assumption | exact grA | apply grB | apply grC | apply grD | refine grE ?_ (by omega) _ | refine grF ?_ (by omega) _ _)) none) (fun q hq => by cases hq), HQ1.out.grows (by repeat (with_reducible first | assumption | exact grA | apply grB | apply grC | apply grD | refine grE ?_ (by omega) _ | refine grF ?_ (by omega) _ _)), by have := HQ2.out; simp at this; omega, fun x => ?_⟩⟩
                  rcases HFO.out x with ⟨h1, h2, h3⟩ | ⟨h1, h2⟩
                  · exact .inl ⟨h1, (mem_take_succ HGT.out).2 (.inl h2), h3⟩
                  · refine .inr ⟨h1, fun h => ?_⟩
                    rcases (mem_take_succ HGT.out).1 h.1 with h4 | rfl
                    · exact h2 ⟨h4, h.2⟩
                    · exact (HR.out.1.dv rfl).none h.2
              · simp only [List.concat_eq_append, List.length_append, List.length_singleton] at *
                rcases NmO.cell HR.out.1.own with h0 | ⟨gO, cO, e, hgl, hcell⟩
                · simp at h0
                have hcc : o.length + 1 ≤ c1 := by
                  obtain ⟨a', cap', e', hcap', hcap2'⟩ := (HR.out.1.own.nsAt HR.out.1.osz (S := fun _ => True) fun _ _ => trivial).len
                  simp only [List.length_append, List.length_singleton] at e' hcap'
                  injection e' with e1' e2' e3'
                  rw [e3']; exact hcap'
                simp only [List.length_append, List.length_singleton] at e
                injection e with e1 e2 e3
                subst e1
                subst e3
                have cc := hcell o.length x (by simp)
                have zO := lt_sz hgl
                have xsz := HR.out.1.osz x (by simp)
                obtain ⟨nm1, fm, Dm, r1, r2, r3⟩ := HR.out.1.mp
                have hlm := r1.look x xsz
                rw [r3 x] at hlm
                have HGK := Lib.hid HR.out.2
                have HRM := Lib.hid r3
                have HOSZ := Lib.hid HR.out.1.osz
                have HLEN := Lib.hid (show o.length + 1 + um met bs * 64 ≤ 64 * 66 by have := HR.out.1.len; simpa using this)
                have hlen3 := HLEN.out
                have op1 : (0 : Int) < (o.length : Int) + 1 := by omega
                have op2 : IntKind.i64.wrap (o.length : Int) = (o.length : Int) := by rw [IntKind.wrap_i64]; omega
                have op3 : (0 : Int) ≤ (o.length : Int) := by omega
                have op4 : (o.length : Int) < (o.length : Int) + 1 := by omega
                have op5 : o.length ≤ c1 := by omega
                have op6 : (o.length : Int) ≤ (c1 : Int) := by omega
                clear hcell r3
                have hq1 : MpI wr bo n1 fo D1 := by simpa using HQ1.out
                have hq2 : n1 ≤ i := by have := HQ2.out; simpa using this
                by_cases hx : x = nm
                · have hx' := hx.symm
                  subst hx'
                  have hmetx : met nm = false := by
                    cases hmm : met nm with
                    | false => rfl
                    | true => exact absurd rfl ((HR.out.1.dv rfl).i2 nm hmm).1
                  have hb : (nm.toList == nm.toList) = true := by simp
                  have HDV : Hid (true = false → DInv k nm (fun y => if y = nm then true else met y) (o ++ leansL k nm)) := Lib.hid fun e => by cases e
                  have HFD : Hid (true = true → Leans k nm nm) := Lib.hid fun _ => (HR.out.1.dv rfl).found
                  have HXIN := Lib.hid (HMEM.out)
                  clear hlm
                  go_upto_region 25 with (at_mapUpdate; go_loud (refine wpList_mapUpdate_own _ rfl (.tmp 88) (.tmp 89) (.const (.int .i64 1)) 38 rfl 9 3 (string_keyed Tryz.underlying9) Tryz.underlying38 heldV bo n1 D1 rfl (hq1.grows (by repeat (with_reducible first | assumption | exact grA | apply grB | apply grC | apply grD | refine grE ?_ (by omega) _ | refine grF ?_ (by omega) _ _))).own (by simp only [maxLen]; omega) (.string nm) (.int .i64 1) (.string nm.data.toList) rfl rfl (WideMaps.keyOf_string_mk Tryz.underlying9 xsz) (.held (.int .i64 1)) [] rfl ?_); intro w8 hown8 hgr8)
                  have hGG8 : wr.grownBy w8 (some bo) := grownBy_trans (grownBy_of_grows (by repeat (with_reducible first | assumption | exact grA | apply grB | apply grC | apply grD | refine grE ?_ (by omega) _ | refine grF ?_ (by omega) _ _)) _) hgr8 (fun q hq => .inl hq)
                  have hr8 : ∀ q, q < wr.heap.size → q ≠ bo → w8.row q = wr.row q := fun q h1 h2 => row_growV hGG8 h1 (fun e => h2 (by injection e))
                  have hs8 := hGG8.size
                  have hsz0 := HR.out.1.sz
                  have hgA2 : w2.grows w8 := World.grows.grown HR.out.1.g2 hGG8 (fun q hq => by injection hq with hq; have := HBMO.out; omega)
                  have hgbA : w5.grownBy w8 (some bo) := grownBy_trans HR.out.1.gb hGG8 (fun q hq => .inl hq)
                  have hszA : w6.heap.size ≤ w8.heap.size := by omega
                  have hrowsA : ∀ q, q < w6.heap.size → q ≠ bo → q ≠ bm → w8.row q = w6.row q := fun q h1 h2 h3 => (hr8 q (by omega) h2).trans (HR.out.1.rows q h1 h2 h3)
                  have hmb : bm ≠ bo := by have := HBMO.out; omega
                  have r1A := r1.row (hr8 bm r1.own.lt hmb)
                  have hlm := r1A.look nm xsz
                  rw [HRM.out nm, hmetx] at hlm
                  simp only [Bool.false_eq_true, if_false, Option.getD_none] at hlm
                  have ownA0 := HR.out.1.own.short
                  have ownA : NmO w8 w6.heap.size (.slice (some ⟨gO, 0, none⟩) o.length c1) o := ownsRow_rowV ownA0 (fun q hq => hr8 q (ownA0.lt q hq).2 (fun e => by have := (ownA0.lt q hq).1; omega))
                  have houtA : ∃ (nO : Nat) (DO : DataW Value), MpI w8 bo nO (if true = true then fun x => if x = nm.data.toList then some (.int .i64 1) else fo x else fo) DO ∧ nO ≤ i + (if true = true then 1 else 0) := ⟨n1 + 1, _, by simp only [if_true]; exact hq1.put hown8, by simp; omega⟩
                  clear hown8 hgr8 hGG8 hr8 ownA0 hq1 HR cc zO
                  have hbmo := HBMO.out
                  have hszA0 := hszA
                  go_upto_region 27 with (at_mapUpdate; go_loud (refine wpList_mapUpdate_own _ rfl (.tmp 94) (.tmp 95) (.const (.int .i64 1)) 38 rfl 9 3 (string_keyed Tryz.underlying9) Tryz.underlying38 heldV bm nm1 Dm rfl (r1A.grows (by repeat (with_reducible first | assumption | exact grA | apply grB | apply grC | apply grD | refine grE ?_ (by omega) _ | refine grF ?_ (by omega) _ _))).own (by simp only [maxLen]; omega) (.string nm) (.int .i64 1) (.string nm.data.toList) rfl rfl (WideMaps.keyOf_string_mk Tryz.underlying9 xsz) (.held (.int .i64 1)) [] rfl ?_); intro w9 hown9 hgr9)
                  have hGG9 : w8.grownBy w9 (some bm) := grownBy_trans (grownBy_of_grows (by repeat (with_reducible first | assumption | exact grA | apply grB | apply grC | apply grD | refine grE ?_ (by omega) _ | refine grF ?_ (by omega) _ _)) _) hgr9 (fun q hq => .inl hq)
                  have hr9 : ∀ q, q < w8.heap.size → q ≠ bm → w9.row q = w8.row q := fun q h1 h2 => row_growV hGG9 h1 (fun e => h2 (by injection e))
                  have hs9 := hGG9.size
                  have hrows9 : ∀ q, q < w6.heap.size → q ≠ bo → q ≠ bm → w9.row q = w6.row q := fun q h1 h2 h3 => (hr9 q (by omega) h3).trans (hrowsA q h1 h2 h3)
                  obtain ⟨aX, cX, hlx, K3, K4⟩ := HLX.out w9 nm xsz hrows9
                  have hg9 : w2.grows w9 := World.grows.grown hgA2 hGG9 (fun q hq => by injection hq with hq; omega)
                  have hgb9 := grownBy_trans hgbA hGG9 (fun q hq => .inr (by injection hq with hq; omega))
                  have own9 : NmO w9 w6.heap.size (.slice (some ⟨gO, 0, none⟩) o.length c1) o := ownsRow_rowV ownA (fun q hq => hr9 q (ownA.lt q hq).2 (fun e => by have := (ownA.lt q hq).1; omega))
                  have mp9 := (r1A).put hown9
                  obtain ⟨nO, DO, hO1, hO2⟩ := houtA
                  have out9 := hO1.row (hr9 bo hO1.own.lt (fun e => by omega))
                  have hlx64 := HLE.out nm
                  have hlenA := HLEN.out
                  have HK3 := Lib.hid K3
                  have HK4 := Lib.hid K4
                  have HO9 := Lib.hid out9
                  have HM9 := Lib.hid mp9
                  have HG9 := Lib.hid hgb9
                  have HONX := Lib.hid (one_ns (leansL k nm))
                  have HR9 := Lib.hid hrows9
                  have HOW9 := Lib.hid own9
                  clear hgr9 hown9 hGG9 hr9 K3 K4 out9 mp9 hO1 hgb9 hrows9 own9
                  have hol : o.length ≤ 4300 := by omega
                  have hlx5 : (leansL k nm).length ≤ 64 := by omega
                  have hw69 : w6.heap.size ≤ w9.heap.size := by omega
                  go_wp2_with ((at_builtin; refine wpList_appS w2 (w6.heap.size) rfl (.tmp 96) (.tmp 99) _ rfl 9 (.string ByteArray.empty) 1 16 Tryz.underlying31 (by kernel_rfl) rfl (by omega) (by omega) _ o.length _ rfl ((World.ownsRow.grows HOW9.out (by repeat (with_reducible first | assumption | exact grA | apply grB | apply grC | apply grD | refine grE ?_ (by omega) _ | refine grF ?_ (by omega) _ _)))) _ (leansL k nm).length _ ((leansL k nm).map Value.string) rfl HK3.out HK4.out HONX.out (by omega) (by repeat (with_reducible first | assumption | exact grA | apply grB | apply grC | apply grD | refine grE ?_ (by omega) _ | refine grF ?_ (by omega) _ _)) (by omega) (by first | omega | (simp <;> omega)) ?_; intro v' w' hg' HO' HR' HG' HA'); (obtain ⟨aZ, cZ, rfl⟩ := own_slice HO'.out))
                  have hGGZ : w9.grownBy w' (Value.slice (some ⟨gO, 0, none⟩) o.length c1).ownBlock := grownBy_trans (grownBy_of_grows (by repeat (with_reducible first | assumption | exact grA | apply grB | apply grC | apply grD | refine grE ?_ (by omega) _ | refine grF ?_ (by omega) _ _)) _) HG'.out (fun q hq => .inl hq)
                  have hrZ : ∀ q, q < w6.heap.size → w'.row q = w9.row q := fun q h1 => row_growV hGGZ (by omega) (fun e => by have := (HOW9.out.lt q e.symm).1; omega)
                  have hleZ : (o ++ leansL k nm).length = o.length + (leansL k nm).length := by simp
                  have hRZ : Hid (RSt w2 w5 w6 w' k bs nm bo bm fo i (.slice aZ (o.length + (leansL k nm).length) cZ) (o ++ leansL k nm) (fun y => if y = nm then true else met y) true) := by
                    refine Lib.hid ⟨hg', grownBy_trans HG9.out hGGZ (fun q hq => .inr (by have := (HOW9.out.lt q hq).1; omega)), Nat.le_trans hw69 hGGZ.size, fun q h1 h2 h3 => (hrZ q h1).trans (HR9.out q h1 h2 h3), ⟨nO, DO, HO9.out.row (hrZ bo hbo6), hO2⟩, ⟨nm1 + 1, _, _, HM9.out.row (hrZ bm hbm6), ?_, fun y => ?_⟩, ?_, fun y hy => ?_, ?_, (by first | (simp; done) | exact fun _ => HDV.out trivial), (by first | (simp; done) | exact fun _ => HFD.out trivial)⟩
                    · have := um_new (bs := bs) hmetx HXIN.out; omega
                    · by_cases hy : y = nm
                      · subst hy; simp
                      · simp only [if_neg (ba_ne hy), if_neg hy]; exact HRM.out y
                    · have := HO'.out
                      unfold NmO
                      rw [hleZ, List.map_append]
                      exact this
                    · rcases List.mem_append.1 hy with h1 | h1
                      · exact HOSZ.out y (by simp [h1])
                      · exact HLS.out nm y h1
                    · have := um_new (bs := bs) hmetx HXIN.out; rw [hleZ]; omega
                  have HUM := Lib.hid (um_new (bs := bs) hmetx HXIN.out)
                  clear HG' HO' HR' HA' hg' hGGZ hrZ
                  go_roundg (muS true (fun y => if y = nm then true else met y) bs (o ++ leansL k nm))
                  case measure =>
                    rw [HGK.out]
                    unfold muS
                    have := HUM.out
                    first
                      | (rw [if_pos rfl, if_neg (by decide)]; omega)
                      | (rw [if_neg (by decide), if_neg (by decide), hleZ, List.length_append, List.length_singleton]; omega)
                  case rel => exact ⟨o ++ leansL k nm, _, true, aZ, cZ, by rw [hleZ], Lib.hid ⟨by rw [hleZ]; exact hRZ.out.grows (by repeat (with_reducible first | assumption | exact grA | apply grB | apply grC | apply grD | refine grE ?_ (by omega) _ | refine grF ?_ (by omega) _ _)), rfl⟩⟩
                · have hb : (x.toList == nm.toList) = false := by
                    rw [beq_eq_false_iff_ne]; exact fun e => hx (ba_toList_inj e)
                  have hb2 : ¬ x.toList = nm.toList := fun e => hx (ba_toList_inj e)
                  have HX := Lib.hid hx
                  clear hx
                  cases hmx : met x with
                  | true =>
                    rw [hmx] at hlm
                    simp only [if_true, Option.getD_some] at hlm
                    have HMX := Lib.hid hmx
                    clear hmx
                    go_wp2_with fail
                    go_roundg (muS false met bs o)
                    case measure =>
                      rw [HGK.out]; unfold muS
                      rw [if_neg (by decide), if_neg (by decide), List.length_append, List.length_singleton]; omega
                    case rel => exact ⟨o, met, false, _, _, rfl, Lib.hid ⟨(HR.out.1.pop HMX.out).grows (by repeat (with_reducible first | assumption | exact grA | apply grB | apply grC | apply grD | refine grE ?_ (by omega) _ | refine grF ?_ (by omega) _ _)), rfl⟩⟩
                  | false =>
                    have hmetx := hmx
                    rw [hmx] at hlm
                    simp only [Bool.false_eq_true, if_false, Option.getD_none] at hlm
                    have HDV : Hid (false = false → DInv k nm (fun y => if y = x then true else met y) (o ++ leansL k x)) := Lib.hid fun _ => (HR.out.1.dv rfl).new HX.out
                    have HFD : Hid (false = true → Leans k nm nm) := Lib.hid fun e => by cases e
                    have HXIN := Lib.hid (HIN.out x ((HR.out.1.dv rfl).i1 x (by simp)).dst)
                    have hgA2 := HR.out.1.g2
                    have hgbA := HR.out.1.gb
                    have hszA := HR.out.1.sz
                    have hrowsA := HR.out.1.rows
                    have r1A := r1
                    have ownA := HR.out.1.own.short
                    have houtA : ∃ (nO : Nat) (DO : DataW Value), MpI wr bo nO (if false = true then fun x => if x = nm.data.toList then some (.int .i64 1) else fo x else fo) DO ∧ nO ≤ i + (if false = true then 1 else 0) := ⟨n1, D1, by simpa using hq1, by simpa using hq2⟩
                    clear hmx hq1 HR
                    have hbmo := HBMO.out
                    have hszA0 := hszA
                    go_upto_region 27 with (at_mapUpdate; go_loud (refine wpList_mapUpdate_own _ rfl (.tmp 94) (.tmp 95) (.const (.int .i64 1)) 38 rfl 9 3 (string_keyed Tryz.underlying9) Tryz.underlying38 heldV bm nm1 Dm rfl (r1A.grows (by repeat (with_reducible first | assumption | exact grA | apply grB | apply grC | apply grD | refine grE ?_ (by omega) _ | refine grF ?_ (by omega) _ _))).own (by simp only [maxLen]; omega) (.string x) (.int .i64 1) (.string x.data.toList) rfl rfl (WideMaps.keyOf_string_mk Tryz.underlying9 xsz) (.held (.int .i64 1)) [] rfl ?_); intro w9 hown9 hgr9)
                    have hGG9 : wr.grownBy w9 (some bm) := grownBy_trans (grownBy_of_grows (by repeat (with_reducible first | assumption | exact grA | apply grB | apply grC | apply grD | refine grE ?_ (by omega) _ | refine grF ?_ (by omega) _ _)) _) hgr9 (fun q hq => .inl hq)
                    have hr9 : ∀ q, q < wr.heap.size → q ≠ bm → w9.row q = wr.row q := fun q h1 h2 => row_growV hGG9 h1 (fun e => h2 (by injection e))
                    have hs9 := hGG9.size
                    have hrows9 : ∀ q, q < w6.heap.size → q ≠ bo → q ≠ bm → w9.row q = w6.row q := fun q h1 h2 h3 => (hr9 q (by omega) h3).trans (hrowsA q h1 h2 h3)
                    obtain ⟨aX, cX, hlx, K3, K4⟩ := HLX.out w9 x xsz hrows9
                    have hg9 : w2.grows w9 := World.grows.grown hgA2 hGG9 (fun q hq => by injection hq with hq; omega)
                    have hgb9 := grownBy_trans hgbA hGG9 (fun q hq => .inr (by injection hq with hq; omega))
                    have own9 : NmO w9 w6.heap.size (.slice (some ⟨gO, 0, none⟩) o.length c1) o := ownsRow_rowV ownA (fun q hq => hr9 q (ownA.lt q hq).2 (fun e => by have := (ownA.lt q hq).1; omega))
                    have mp9 := (r1A).put hown9
                    obtain ⟨nO, DO, hO1, hO2⟩ := houtA
                    have out9 := hO1.row (hr9 bo hO1.own.lt (fun e => by omega))
                    have hlx64 := HLE.out x
                    have hlenA := HLEN.out
                    have HK3 := Lib.hid K3
                    have HK4 := Lib.hid K4
                    have HO9 := Lib.hid out9
                    have HM9 := Lib.hid mp9
                    have HG9 := Lib.hid hgb9
                    have HONX := Lib.hid (one_ns (leansL k x))
                    have HR9 := Lib.hid hrows9
                    have HOW9 := Lib.hid own9
                    clear hgr9 hown9 hGG9 hr9 K3 K4 out9 mp9 hO1 hgb9 hrows9 own9
                    have hol : o.length ≤ 4300 := by omega
                    have hlx5 : (leansL k x).length ≤ 64 := by omega
                    have hw69 : w6.heap.size ≤ w9.heap.size := by omega
                    go_wp2_with ((at_builtin; refine wpList_appS w2 (w6.heap.size) rfl (.tmp 96) (.tmp 99) _ rfl 9 (.string ByteArray.empty) 1 16 Tryz.underlying31 (by kernel_rfl) rfl (by omega) (by omega) _ o.length _ rfl ((World.ownsRow.grows HOW9.out (by repeat (with_reducible first | assumption | exact grA | apply grB | apply grC | apply grD | refine grE ?_ (by omega) _ | refine grF ?_ (by omega) _ _)))) _ (leansL k x).length _ ((leansL k x).map Value.string) rfl HK3.out HK4.out HONX.out (by omega) (by repeat (with_reducible first | assumption | exact grA | apply grB | apply grC | apply grD | refine grE ?_ (by omega) _ | refine grF ?_ (by omega) _ _)) (by omega) (by first | omega | (simp <;> omega)) ?_; intro v' w' hg' HO' HR' HG' HA'); (obtain ⟨aZ, cZ, rfl⟩ := own_slice HO'.out))
                    have hGGZ : w9.grownBy w' (Value.slice (some ⟨gO, 0, none⟩) o.length c1).ownBlock := grownBy_trans (grownBy_of_grows (by repeat (with_reducible first | assumption | exact grA | apply grB | apply grC | apply grD | refine grE ?_ (by omega) _ | refine grF ?_ (by omega) _ _)) _) HG'.out (fun q hq => .inl hq)
                    have hrZ : ∀ q, q < w6.heap.size → w'.row q = w9.row q := fun q h1 => row_growV hGGZ (by omega) (fun e => by have := (HOW9.out.lt q e.symm).1; omega)
                    have hleZ : (o ++ leansL k x).length = o.length + (leansL k x).length := by simp
                    have hRZ : Hid (RSt w2 w5 w6 w' k bs nm bo bm fo i (.slice aZ (o.length + (leansL k x).length) cZ) (o ++ leansL k x) (fun y => if y = x then true else met y) false) := by
                      refine Lib.hid ⟨hg', grownBy_trans HG9.out hGGZ (fun q hq => .inr (by have := (HOW9.out.lt q hq).1; omega)), Nat.le_trans hw69 hGGZ.size, fun q h1 h2 h3 => (hrZ q h1).trans (HR9.out q h1 h2 h3), ⟨nO, DO, HO9.out.row (hrZ bo hbo6), hO2⟩, ⟨nm1 + 1, _, _, HM9.out.row (hrZ bm hbm6), ?_, fun y => ?_⟩, ?_, fun y hy => ?_, ?_, (by first | (simp; done) | exact fun _ => HDV.out trivial), (by first | (simp; done) | exact fun _ => HFD.out trivial)⟩
                      · have := um_new (bs := bs) hmetx HXIN.out; omega
                      · by_cases hy : y = x
                        · subst hy; simp
                        · simp only [if_neg (ba_ne hy), if_neg hy]; exact HRM.out y
                      · have := HO'.out
                        unfold NmO
                        rw [hleZ, List.map_append]
                        exact this
                      · rcases List.mem_append.1 hy with h1 | h1
                        · exact HOSZ.out y (by simp [h1])
                        · exact HLS.out x y h1
                      · have := um_new (bs := bs) hmetx HXIN.out; rw [hleZ]; omega
                    have HUM := Lib.hid (um_new (bs := bs) hmetx HXIN.out)
                    clear HG' HO' HR' HA' hg' hGGZ hrZ
                    go_roundg (muS false (fun y => if y = x then true else met y) bs (o ++ leansL k x))
                    case measure =>
                      rw [HGK.out]
                      unfold muS
                      have := HUM.out
                      first
                        | (rw [if_pos rfl, if_neg (by decide)]; omega)
                        | (rw [if_neg (by decide), if_neg (by decide), hleZ, List.length_append, List.length_singleton]; omega)
                    case rel => exact ⟨o ++ leansL k x, _, false, aZ, cZ, by rw [hleZ], Lib.hid ⟨by rw [hleZ]; exact hRZ.out.grows (by repeat (with_reducible first | assumption | exact grA | apply grB | apply grC | apply grD | refine grE ?_ (by omega) _ | refine grF ?_ (by omega) _ _)), rfl⟩⟩
        · have iI : ¬ (i : Int) < (bs.length : Int) := by omega
          obtain rfl : i = bs.length := by omega
          rw [List.take_length] at hfo
          have HFO := Lib.hid hfo
          have HMO3 := Lib.hid (And.intro hMo hno)
          clear hfo hMo hno HI
          go_wp2_with fail
          go_ret
          refine ⟨bo, no, fo, Do, rfl, (hg2.trans hgj2).trans (by repeat (with_reducible first | assumption | exact grA | apply grB | apply grC | apply grD | refine grE ?_ (by omega) _ | refine grF ?_ (by omega) _ _)), Nat.le_trans hg2.below.size hbo2, by have := HMO3.out.2; omega, HMO3.out.1.grows (by repeat (with_reducible first | assumption | exact grA | apply grB | apply grC | apply grD | refine grE ?_ (by omega) _ | refine grF ?_ (by omega) _ _)), fun x => ?_⟩
          rcases HFO.out x with ⟨h1, _, h3⟩ | ⟨h1, h2⟩
          · exact .inl ⟨h1, h3⟩
          · exact .inr ⟨h1, fun h => h2 ⟨HIN.out x h.src, h⟩⟩
end Go.Proofs.YthcaphoejplecaaGreatDoor

/- WALK over vars: the closure that visits what is declared. No condition but bounds. -/
namespace Go
open Go.RowKit
/-- how many names are white -/
def wh (col : ByteArray → Int) (bs : List ByteArray) : Nat := (bs.filter fun x => decide (col x = 0)).length
theorem wh_grey {col : ByteArray → Int} {bs : List ByteArray} {x : ByteArray} (h : col x = 0) (hx : x ∈ bs) : wh (setC col x 1) bs + 1 ≤ wh col bs := by
  refine cntLt bs (fun y _ hy => ?_) x hx (by simp [setC]) (by simp [h])
  have h2 := of_decide_eq_true hy
  unfold setC at h2
  split at h2
  · cases h2
  · simpa using h2
theorem putAll_len (k : Known) (l : List Tk) : (putAll k l).1.length ≤ 512 := by
  unfold putAll
  split
  · simp
  · cases hp : putP k 65 [] (parse l) with
    | none => simp
    | some o =>
      simp only
      split
      · exact (putPR_same k 65 (parse l) [] (by decide)).2 o hp
      · simp
theorem setK_same {k : Known} {n : ByteArray} (h : k n = none) : setK k n none = k := by
  funext x
  unfold setK
  split
  · rename_i e; rw [e, h]
  · rfl
theorem wh_black {col : ByteArray → Int} {bs : List ByteArray} {x : ByteArray} (h : col x ≠ 0) : wh (setC col x 2) bs = wh col bs := by
  unfold wh
  congr 2
  funext y
  unfold setC
  by_cases e : y = x
  · rw [if_pos e, e]; simp [h]
  · rw [if_neg e]
end Go
namespace Go.Proofs.YthcaphoejplecaaGreatDoor
open Go.RowKit Go.Maps
/-- where all stands, and what does not turn -/
structure VCx (w1 : World) (B pc pm pr pv pa bc bm br ba : Nat) (m : Known) (bs : List ByteArray) : Prop where
  qc : w1.heap.size ≤ bc ∧ bc < B
  qa : w1.heap.size ≤ ba ∧ ba < B
  lc : pc < B
  lr : pr < B
  lv : pv < B
  la : pa < B
  nc : bc ≠ pc ∧ bc ≠ pr ∧ bc ≠ pv ∧ bc ≠ pa ∧ bc ≠ ba
  na : ba ≠ pc ∧ ba ≠ pr ∧ ba ≠ pv ∧ ba ≠ pa
  rm : w1.row pm = some (.cells #[.map (some bm)] 36)
  mine : ∃ n, ByAt w1 (fun g => g < w1.heap.size) bm m n
  ring : ∃ (n : Nat) (f : List UInt8 → Option Value) (D : DataW Value), MpI w1 br n f D ∧ ∀ nm : ByteArray, (f nm.data.toList = some (.int .i64 1) ∧ Leans m nm nm) ∨ (f nm.data.toList = none ∧ ¬ Leans m nm nm)
  names : ∀ x, m x ≠ none → x ∈ bs
/-- the boxes, in memory -/
structure VsR (w1 : World) (B pc pm pr pv pa bc br ba : Nat) (W : World) : Prop where
  gr : w1.grows W
  sz : B ≤ W.heap.size
  rc : W.row pc = some (.cells #[.map (some bc)] 38)
  rr : W.row pr = some (.cells #[.map (some br)] 38)
  rv : ∃ ty, W.row pv = some (.cells #[.func (.func 15) #[] #[.pointer (some ⟨pc, 0, none⟩), .pointer (some ⟨pm, 0, none⟩), .pointer (some ⟨pr, 0, none⟩), .pointer (some ⟨pv, 0, none⟩), .pointer (some ⟨pa, 0, none⟩)]] ty)
  ra : W.row pa = some (.cells #[.map (some ba)] 36)
/-- how far the visits have come, in memory -/
structure VsS (w1 : World) (B pc pm pr pv pa bc br ba : Nat) (m ab : Known) (bs : List ByteArray) (W : World) (col : ByteArray → Int) (k : Known) (L : Nat) : Prop extends VsR w1 B pc pm pr pv pa bc br ba W where
  mc : ∃ (n : Nat) (f : List UInt8 → Option Value) (D : DataW Value), MpI W bc n f D ∧ n + 2 * wh col bs ≤ L ∧ ∀ x : ByteArray, f x.data.toList = if col x = 0 then none else some (.int .i64 (col x))
  ma : ∃ n : Nat, ByAt W (fun g => g < W.heap.size ∧ g ≠ ba ∧ g ≠ bc) ba k n ∧ n + 2 * wh col bs ≤ L
  inv : VInv m ab col k
theorem ByAt.keep {w W : World} {S S' : Nat → Prop} {b n : Nat} {k : Known} (h : ByAt w S b k n) (hb : W.row b = w.row b) (hw : ∀ g, S g → g < w.heap.size → W.row g = w.row g ∧ S' g) : ByAt W S' b k n := by
  obtain ⟨f, D, h1, h2⟩ := h
  refine ⟨f, D, h1.row hb, fun name => ?_⟩
  have := h2 name
  cases hk : k name with
  | none => rw [hk] at this; exact this
  | some ts =>
    rw [hk] at this
    obtain ⟨u, e1, e2, e3⟩ := this
    exact ⟨u, e1, e2.keep hw fun _ _ _ h => h, e3⟩
section
variable {w1 : World} {B pc pm pr pv pa bc bm br ba : Nat} {m ab : Known} {bs : List ByteArray} {W W' : World} {col : ByteArray → Int} {k : Known} {L : Nat}
theorem VsS.grows (h : VsS w1 B pc pm pr pv pa bc br ba m ab bs W col k L) (hg : W.grows W') : VsS w1 B pc pm pr pv pa bc br ba m ab bs W' col k L := by
  obtain ⟨ty, hv⟩ := h.rv
  obtain ⟨n, f, D, c1, c2, c3⟩ := h.mc
  obtain ⟨n2, a1, a2⟩ := h.ma
  have hs := hg.below.size
  have hal : ba < W.heap.size := by obtain ⟨f, D, h1, _⟩ := a1; exact h1.own.lt
  exact ⟨⟨h.gr.trans hg, Nat.le_trans h.sz hs, (hg.row_eq (row_sz' h.rc).1).trans h.rc, (hg.row_eq (row_sz' h.rr).1).trans h.rr, ⟨ty, (hg.row_eq (row_sz' hv).1).trans hv⟩, (hg.row_eq (row_sz' h.ra).1).trans h.ra⟩, ⟨n, f, D, c1.grows hg, c2, c3⟩, ⟨n2, a1.keep (hg.row_eq hal) (fun g hg2 hl => ⟨hg.row_eq hl, by omega, hg2.2⟩), a2⟩, h.inv⟩
theorem VsR.step (h : VsR w1 B pc pm pr pv pa bc br ba W) (hx : VCx w1 B pc pm pr pv pa bc bm br ba m bs) (hgr : W.grownBy W' (some ba)) : VsR w1 B pc pm pr pv pa bc br ba W' := by
  have hr : ∀ g, g < W.heap.size → g ≠ ba → W'.row g = W.row g := fun g hl hn => row_growV hgr hl (fun e => hn (by injection e))
  obtain ⟨ty, hv⟩ := h.rv
  obtain ⟨x1, x2, x3, x4⟩ := hx.na
  exact ⟨h.gr.grown hgr (fun q hq => by injection hq with hq; have := hx.qa; omega), Nat.le_trans h.sz hgr.size, (hr _ (row_sz' h.rc).1 x1.symm).trans h.rc, (hr _ (row_sz' h.rr).1 x2.symm).trans h.rr, ⟨ty, (hr _ (row_sz' hv).1 x3.symm).trans hv⟩, (hr _ (row_sz' h.ra).1 x4.symm).trans h.ra⟩
/-- a colour is set -/
theorem VsR.colour (h : VsR w1 B pc pm pr pv pa bc br ba W) (hx : VCx w1 B pc pm pr pv pa bc bm br ba m bs) {n : Nat} {f : List UInt8 → Option Value} {D : DataW Value} (h1 : MpI W bc n f D) (h3 : ∀ x : ByteArray, f x.data.toList = if col x = 0 then none else some (.int .i64 (col x))) (hgr : W.grownBy W' (some bc)) {nm : ByteArray} {c : Int} {k' : Known}
    (ho : W'.ownsMap Tryz.prog 9 heldV bc (n + 1) (D.put (.string nm.data.toList) (.held (.int .i64 c)))) (hc : c ≠ 0) {L' : Nat} (hL1 : n + 1 + 2 * wh (setC col nm c) bs ≤ L') (hma : ∃ n : Nat, ByAt W (fun g => g < W.heap.size ∧ g ≠ ba ∧ g ≠ bc) ba k' n ∧ n + 2 * wh (setC col nm c) bs ≤ L') (hinv : VInv m ab (setC col nm c) k') : VsS w1 B pc pm pr pv pa bc br ba m ab bs W' (setC col nm c) k' L' := by
  have hr : ∀ g, g < W.heap.size → g ≠ bc → W'.row g = W.row g := fun g hl hn => row_growV hgr hl (fun e => hn (by injection e))
  obtain ⟨ty, hv⟩ := h.rv
  obtain ⟨n2, a1, a2⟩ := hma
  have hal : ba < W.heap.size := by obtain ⟨f, D, h1, _⟩ := a1; exact h1.own.lt
  obtain ⟨x1, x2, x3, x4, x5⟩ := hx.nc
  have hs := hgr.size
  refine ⟨⟨h.gr.grown hgr (fun q hq => by injection hq with hq; have := hx.qc; omega), Nat.le_trans h.sz hs, (hr _ (row_sz' h.rc).1 x1.symm).trans h.rc, (hr _ (row_sz' h.rr).1 x2.symm).trans h.rr, ⟨ty, (hr _ (row_sz' hv).1 x3.symm).trans hv⟩, (hr _ (row_sz' h.ra).1 x4.symm).trans h.ra⟩, ⟨n + 1, _, _, h1.put ho, hL1, fun x => ?_⟩, ⟨n2, a1.keep (hr _ hal x5.symm) (fun g hg hl => ⟨hr g hl hg.2.2, by omega, hg.2⟩), a2⟩, hinv⟩
  unfold setC
  by_cases e : x = nm
  · subst e; simp [hc]
  · simp only [if_neg (ba_ne e), if_neg e]; exact h3 x
end
/-- how a visit ends -/
def VisPost (w1 : World) (B pc pm pr pv pa bc br ba : Nat) (m ab : Known) (bs : List ByteArray) (W : World) (col : ByteArray → Int) (L : Nat) (name : ByteArray) (e : Ending) (w' : World) : Prop :=
  e = .returned (.tuple #[]) ∧ ∃ (col' : ByteArray → Int) (k' : Known), VsS w1 B pc pm pr pv pa bc br ba m ab bs w' col' k' L ∧ col' name = 2 ∧ (∀ x, col' x = 1 ↔ col x = 1) ∧ (∀ x, col x = 2 → col' x = 2) ∧ wh col' bs ≤ wh col bs ∧ W.heap.size ≤ w'.heap.size ∧ ∀ g, g < W.heap.size → g ≠ ba → g ≠ bc → w'.row g = W.row g
abbrev VisC (w1 : World) (B pc pm pr pv pa bc br ba : Nat) (m ab : Known) (bs : List ByteArray) (N : Nat) : Prop := ∀ (W : World) (col : ByteArray → Int) (k : Known) (L : Nat) (name : ByteArray), wh col bs ≤ N → VsS w1 B pc pm pr pv pa bc br ba m ab bs W col k L → L ≤ 8000000 → m name ≠ none → ¬ Leans m name name → (∀ x, col x = 1 → Leans m x name) → name.size ≤ maxLen →
  Calls Tryz.prog 15 #[.string name, .pointer (some ⟨pc, 0, none⟩), .pointer (some ⟨pm, 0, none⟩), .pointer (some ⟨pr, 0, none⟩), .pointer (some ⟨pv, 0, none⟩), .pointer (some ⟨pa, 0, none⟩)] W (VisPost w1 B pc pm pr pv pa bc br ba m ab bs W col L name)
set_option maxRecDepth 100000 in
set_option maxHeartbeats 8000000 in
theorem vis_step {w1 : World} {B pc pm pr pv pa bc bm br ba : Nat} {m ab : Known} {bs : List ByteArray} (hX : VCx w1 B pc pm pr pv pa bc bm br ba m bs) (N : Nat) (IH : ∀ M, M < N → VisC w1 B pc pm pr pv pa bc br ba m ab bs M) : VisC w1 B pc pm pr pv pa bc br ba m ab bs N := by
  intro W col k L name hN hS hL hm hr hgy hsz
  have HX := Lib.hid hX
  have HIH := Lib.hid IH
  have HS := Lib.hid hS
  have HM := Lib.hid hm
  have HR := Lib.hid hr
  have HG := Lib.hid hgy
  clear hX IH hS hm hr hgy
  obtain ⟨nC, fC, DC, mc1, mc2, mc3⟩ := HS.out.mc
  have hlc := mc1.look name hsz
  rw [mc3 name] at hlc
  have HC1 := Lib.hid mc1
  have HC3 := Lib.hid mc3
  have rc := HS.out.rc
  have zrc := row_sz' rc
  clear mc1 mc3
  rcases HS.out.inv.c0 name with hc | hc | hc
  · rw [hc] at hlc
    simp only [if_true, Option.getD_none] at hlc
    have HCN := Lib.hid hc
    clear hc
    go_enter Tryz.func15, Tryz.ntmps15
    go_upto_region 2 with (at_mapUpdate; go_loud (refine wpList_mapUpdate_own _ rfl (.tmp 17) (.tmp 18) (.const (.int .i64 1)) 38 rfl 9 3 (string_keyed Tryz.underlying9) Tryz.underlying38 heldV bc nC DC rfl (HC1.out.grows (by repeat (with_reducible first | assumption | exact grA | apply grB | apply grC | apply grD | refine grE ?_ (by omega) _ | refine grF ?_ (by omega) _ _))).own (by simp only [maxLen]; omega) (.string name) (.int .i64 1) (.string name.data.toList) rfl rfl (WideMaps.keyOf_string_mk Tryz.underlying9 hsz) (.held (.int .i64 1)) [] rfl ?_); intro w3 hown3 hgr3)
    have hGG3 : W.grownBy w3 (some bc) := grownBy_trans (grownBy_of_grows (by repeat (with_reducible first | assumption | exact grA | apply grB | apply grC | apply grD | refine grE ?_ (by omega) _ | refine grF ?_ (by omega) _ _)) _) hgr3 (fun q hq => .inl hq)
    have hwg := wh_grey (bs := bs) HCN.out (HX.out.names name HM.out)
    have HS3 : Hid (VsS w1 B pc pm pr pv pa bc br ba m ab bs w3 (setC col name 1) k (L - 1)) := Lib.hid (HS.out.toVsR.colour HX.out HC1.out HC3.out hGG3 hown3 (by decide) (by omega) (by obtain ⟨n2, a1, a2⟩ := HS.out.ma; exact ⟨n2, a1, by omega⟩) (HS.out.inv.grey HM.out HR.out HCN.out))
    have hrow3 : ∀ g, g < W.heap.size → g ≠ ba → g ≠ bc → w3.row g = W.row g := fun g hl _ h2 => row_growV hGG3 hl (fun e => h2 (by injection e))
    have HR3 := Lib.hid (And.intro hGG3.size hrow3)
    clear hgr3 hown3 hGG3 hrow3 rc zrc hlc
    obtain ⟨nM, fM, DM, mm1, mm2⟩ := HX.out.mine
    have hkx := mm2 name
    obtain ⟨ts, hts⟩ : ∃ ts, m name = some ts := by
      cases hk : m name with
      | none => exact absurd hk HM.out
      | some ts => exact ⟨ts, rfl⟩
    rw [hts] at hkx
    obtain ⟨uT, hfu, htk, htl⟩ := hkx
    obtain ⟨aT, cT, rfl, -, -⟩ := htk.len
    have HLM : Hid (∀ W', w1.grows W' → (Instr.lookup 36 (.map (some bm)) (.string name) false).run Tryz.prog W' = .ok (.slice aT ts.length cT) W') := Lib.hid fun W' hg => by
      rw [(mm1.grows hg).look name hsz, hfu]; rfl
    have HUS := Lib.hid (fun (W' : World) (hg : w1.grows W') => vUses_any (htk.keep (fun g _ hl => ⟨hg.row_eq hl, trivial⟩) fun _ _ _ h => h) htl)
    have HTK := Lib.hid (And.intro htk htl)
    have HSM := Lib.hid (usesT_small (l := ts) fun t ht => (tks_cells htk).2.1 t ht)
    have HUL := Lib.hid (Nat.le_trans (usesT_len (l := ts)) htl)
    have HTS := Lib.hid hts
    have HMM := Lib.hid mm1
    have HM2 := Lib.hid mm2
    have HLN : Hid (∀ u, Lean1 m name u ↔ u ∈ usesT ts ∧ m u ≠ none) := Lib.hid fun u => ⟨fun h => by
      obtain ⟨t2, h1, h2, h3⟩ := h
      rw [hts] at h1; injection h1 with h1
      rw [h1]; exact ⟨h2, h3⟩, fun h => ⟨ts, hts, h.1, h.2⟩⟩
    clear hts hfu htk htl mm1 mm2
    generalize hus : usesT ts = us at *
    clear hus
    have rm3 := (HS3.out.gr.row_eq (row_sz' HX.out.rm).1).trans HX.out.rm
    have zrm3 := row_sz' rm3
    have hlk3 := HLM.out w3 HS3.out.gr
    have hgr3 := HS3.out.gr
    go_wp2_with (go_at_call 16; go_loud ((with_reducible refine (HUS.out _ (hgr3.trans (by repeat (with_reducible first | assumption | exact grA | apply grB | apply grC | apply grD | refine grE ?_ (by omega) _ | refine grF ?_ (by omega) _ _)))).mono ?_); rintro r w4 ⟨v4, rfl, hg4, hn4⟩; replace hn4 := own_lower (World.grows.below (show w3.grows _ from (by repeat (with_reducible first | assumption | exact grA | apply grB | apply grC | apply grD | refine grE ?_ (by omega) _ | refine grF ?_ (by omega) _ _)))).size hn4; (obtain ⟨a4, c4, rfl⟩ := own_slice hn4)))
    have hg34 : w3.grows w4 := World.grows.trans (by repeat (with_reducible first | assumption | exact grA | apply grB | apply grC | apply grD | refine grE ?_ (by omega) _ | refine grF ?_ (by omega) _ _)) hg4
    have HS4 := Lib.hid (HS3.out.grows hg34)
    have hB3 := HS3.out.sz
    have hs34 := hg34.below.size
    have HXC := Lib.hid (NmO.cell hn4)
    have HNL := Lib.hid (fun g hg => show B ≤ g ∧ g < w4.heap.size by have := hn4.lt g hg; omega)
    have hul := HUL.out
    have HG34 := Lib.hid hg34
    clear hn4 rm3 zrm3 hlk3 hg4
    go_loopg [24] us.length (fun gn v24 wj => ∃ (j : Nat) (col1 : ByteArray → Int) (k1 : Known), Hid (gn + j = us.length ∧ j ≤ us.length) ∧ v24 = .int .i64 j ∧ Hid (VsS w1 B pc pm pr pv pa bc br ba m ab bs wj col1 k1 (L - 1) ∧ (∀ x, col1 x = 1 ↔ setC col name 1 x = 1) ∧ (∀ x, setC col name 1 x = 2 → col1 x = 2) ∧ wh col1 bs ≤ wh (setC col name 1) bs ∧ (∀ q u, q < j → us[q]? = some u → m u ≠ none → ¬ Leans m u u → col1 u = 2) ∧ w4.heap.size ≤ wj.heap.size ∧ ∀ g, g < w4.heap.size → g ≠ ba → g ≠ bc → wj.row g = w4.row g))
    case atStart => exact ⟨0, _, _, Lib.hid ⟨by simp, Nat.zero_le _⟩, by go_num, Lib.hid ⟨HS4.out.grows (by repeat (with_reducible first | assumption | exact grA | apply grB | apply grC | apply grD | refine grE ?_ (by omega) _ | refine grF ?_ (by omega) _ _)), fun x => Iff.rfl, fun x h => h, Nat.le_refl _, fun q u h => by omega, (World.grows.below (by repeat (with_reducible first | assumption | exact grA | apply grB | apply grC | apply grD | refine grE ?_ (by omega) _ | refine grF ?_ (by omega) _ _))).size, fun g hl _ _ => World.grows.row_eq (by repeat (with_reducible first | assumption | exact grA | apply grB | apply grC | apply grD | refine grE ?_ (by omega) _ | refine grF ?_ (by omega) _ _)) hl⟩⟩
    case round =>
      obtain ⟨j, col1, k1, HQ, rfl, HV⟩ := hrel
      obtain ⟨j1, j2⟩ := HQ.out
      obtain ⟨hs1, hg1, hb1, hw1, hd1, hsz1, hrw1⟩ := HV.out
      have HS1 := Lib.hid hs1
      have hgr1 := hs1.gr
      have rm1 := (hs1.gr.row_eq (row_sz' HX.out.rm).1).trans HX.out.rm
      have zrm1 := row_sz' rm1
      by_cases hj : j < us.length
      · have jI : (j : Int) < (us.length : Int) := by omega
        have jj0 : (0 : Int) ≤ (j : Int) := by omega
        have jw : IntKind.i64.wrap ((j : Int) + 1) = (j : Int) + 1 := by rw [IntKind.wrap_i64]; omega
        obtain ⟨u, hu⟩ : ∃ u, us[j]? = some u := ⟨_, List.getElem?_eq_getElem hj⟩
        have humem := List.mem_of_getElem? hu
        have husz := HSM.out u humem
        rcases HXC.out with h0 | ⟨gX, cX, e, hgl, hcell⟩
        · rw [h0] at hj; simp at hj
        injection e with e1 e2 e3
        subst e1
        subst e3
        have hgX := (HNL.out gX rfl).1
        have hqa := HX.out.qa.2
        have hqc := HX.out.qc.2
        have cc := hcell j u hu
        rw [← hrw1 gX hgl (by omega) (by omega)] at cc
        have zX := lt_sz (Nat.lt_of_lt_of_le hgl hsz1)
        have hlo := (HMM.out.grows hgr1).look_ok u husz
        have hkx := HM2.out u
        have HU := Lib.hid (And.intro hu humem)
        clear hcell hu humem e2 HV
        cases hmu : m u with
        | none =>
          rw [hmu] at hkx
          rw [hkx] at hlo
          simp only [Option.getD_none, Option.isSome_none] at hlo
          have HMU := Lib.hid hmu
          clear hmu
          go_wp2_with fail
          go_roundg (us.length - (j + 1))
          case measure => omega
          case rel => exact ⟨j + 1, col1, k1, Lib.hid ⟨by omega, by omega⟩, by go_num, Lib.hid ⟨HS1.out.grows (by repeat (with_reducible first | assumption | exact grA | apply grB | apply grC | apply grD | refine grE ?_ (by omega) _ | refine grF ?_ (by omega) _ _)), hg1, hb1, hw1, fun q x hq hx hmx hrx => by
            by_cases e : q = j
            · subst e
              rw [HU.out.1] at hx; injection hx with hx; subst hx
              exact absurd HMU.out hmx
            · exact hd1 q x (by omega) hx hmx hrx, Nat.le_trans hsz1 (World.grows.below (by repeat (with_reducible first | assumption | exact grA | apply grB | apply grC | apply grD | refine grE ?_ (by omega) _ | refine grF ?_ (by omega) _ _))).size, fun g hl h1 h2 => (World.grows.row_eq (by repeat (with_reducible first | assumption | exact grA | apply grB | apply grC | apply grD | refine grE ?_ (by omega) _ | refine grF ?_ (by omega) _ _)) (by omega)).trans (hrw1 g hl h1 h2)⟩⟩
        | some tu =>
          rw [hmu] at hkx
          obtain ⟨uu, hfu, -, -⟩ := hkx
          rw [hfu] at hlo
          simp only [Option.getD_some, Option.isSome_some] at hlo
          have HMU := Lib.hid hmu
          clear hmu hfu
          have rr1 := HS1.out.rr
          have zrr1 := row_sz' rr1
          obtain ⟨tyv, rv1⟩ := HS1.out.rv
          have zrv1 := row_sz' rv1
          obtain ⟨nr, fr, Dr, mr1, mr2⟩ := HX.out.ring
          have hlr := (mr1.grows hgr1).look u husz
          rcases mr2 u with ⟨hfr, hru⟩ | ⟨hfr, hru⟩
          · rw [hfr] at hlr
            simp only [Option.getD_some] at hlr
            have HRU := Lib.hid hru
            clear hru hfr mr1 mr2
            go_wp2_with fail
            go_roundg (us.length - (j + 1))
            case measure => omega
            case rel => exact ⟨j + 1, col1, k1, Lib.hid ⟨by omega, by omega⟩, by go_num, Lib.hid ⟨HS1.out.grows (by repeat (with_reducible first | assumption | exact grA | apply grB | apply grC | apply grD | refine grE ?_ (by omega) _ | refine grF ?_ (by omega) _ _)), hg1, hb1, hw1, fun q x hq hx hmx hrx => by
              by_cases e : q = j
              · subst e
                rw [HU.out.1] at hx; injection hx with hx; subst hx
                exact absurd HRU.out hrx
              · exact hd1 q x (by omega) hx hmx hrx, Nat.le_trans hsz1 (World.grows.below (by repeat (with_reducible first | assumption | exact grA | apply grB | apply grC | apply grD | refine grE ?_ (by omega) _ | refine grF ?_ (by omega) _ _))).size, fun g hl h1 h2 => (World.grows.row_eq (by repeat (with_reducible first | assumption | exact grA | apply grB | apply grC | apply grD | refine grE ?_ (by omega) _ | refine grF ?_ (by omega) _ _)) (by omega)).trans (hrw1 g hl h1 h2)⟩⟩
          · rw [hfr] at hlr
            simp only [Option.getD_none] at hlr
            have HRU := Lib.hid hru
            have hmun : m u ≠ none := by rw [HMU.out]; simp
            have hgl1 : ∀ x, col1 x = 1 → Leans m x u := fun x hx => by
              have h1 := (hg1 x).1 hx
              have hl := (HLN.out u).2 ⟨HU.out.2, hmun⟩
              unfold setC at h1
              split at h1
              · rename_i e; rw [e]; exact .one hl
              · exact .more (HG.out x h1) hl
            have HVIS := Lib.hid (fun (W' : World) (hg : wr.grows W') => HIH.out (wh col1 bs) (by omega) W' col1 k1 (L - 1) u (Nat.le_refl _) (HS1.out.grows hg) (by omega) hmun hru hgl1 husz)
            clear hru hfr mr1 mr2 hgl1
            go_wp2_with (go_at_call 15; go_loud ((with_reducible refine (HVIS.out _ (by repeat (with_reducible first | assumption | exact grA | apply grB | apply grC | apply grD | refine grE ?_ (by omega) _ | refine grF ?_ (by omega) _ _))).mono ?_); rintro r w7 ⟨rfl, col2, k2, p1, p2, p3, p4, p5, p6, p7⟩))
            have hGW : ∀ g, g < wr.heap.size → g ≠ ba → g ≠ bc → w7.row g = wr.row g := fun g hl h1 h2 => (p7 g (Nat.lt_of_lt_of_le hl (World.grows.below (by repeat (with_reducible first | assumption | exact grA | apply grB | apply grC | apply grD | refine grE ?_ (by omega) _ | refine grF ?_ (by omega) _ _))).size) h1 h2).trans (World.grows.row_eq (by repeat (with_reducible first | assumption | exact grA | apply grB | apply grC | apply grD | refine grE ?_ (by omega) _ | refine grF ?_ (by omega) _ _)) hl)
            have hsW : wr.heap.size ≤ w7.heap.size := Nat.le_trans (World.grows.below (by repeat (with_reducible first | assumption | exact grA | apply grB | apply grC | apply grD | refine grE ?_ (by omega) _ | refine grF ?_ (by omega) _ _))).size p6
            go_roundg (us.length - (j + 1))
            case measure => omega
            case rel => exact ⟨j + 1, col2, k2, Lib.hid ⟨by omega, by omega⟩, by go_num, Lib.hid ⟨p1.grows (by repeat (with_reducible first | assumption | exact grA | apply grB | apply grC | apply grD | refine grE ?_ (by omega) _ | refine grF ?_ (by omega) _ _)), fun x => (p3 x).trans (hg1 x), fun x h => p4 x (hb1 x h), Nat.le_trans p5 hw1, fun q x hq hx hmx hrx => by
              by_cases e : q = j
              · subst e
                rw [HU.out.1] at hx; injection hx with hx; subst hx
                exact p2
              · exact p4 x (hd1 q x (by omega) hx hmx hrx), Nat.le_trans hsz1 (Nat.le_trans hsW (World.grows.below (by repeat (with_reducible first | assumption | exact grA | apply grB | apply grC | apply grD | refine grE ?_ (by omega) _ | refine grF ?_ (by omega) _ _))).size), fun g hl h1 h2 => (World.grows.row_eq (by repeat (with_reducible first | assumption | exact grA | apply grB | apply grC | apply grD | refine grE ?_ (by omega) _ | refine grF ?_ (by omega) _ _)) (by omega)).trans ((hGW g (by omega) h1 h2).trans (hrw1 g hl h1 h2))⟩⟩
      · have jI : ¬ (j : Int) < (us.length : Int) := by omega
        obtain rfl : j = us.length := by omega
        have hlm := HLM.out wr hgr1
        have ra1 := HS1.out.ra
        have zra1 := row_sz' ra1
        have hc1 : col1 name = 1 := (hg1 name).2 (by unfold setC; rw [if_pos rfl])
        have HVB := Lib.hid (HS1.out.inv.black HTS.out hc1 (fun u hl => by
          obtain ⟨h1, h2⟩ := (HLN.out u).1 hl
          obtain ⟨q, hq, e⟩ := List.mem_iff_getElem.1 h1
          by_cases hru : Leans m u u
          · exact .inl hru
          · exact .inr (hd1 q u hq (by rw [List.getElem?_eq_getElem hq, e]) h2 hru)))
        have HK0 := Lib.hid (HS1.out.inv.kw name HM.out (by rw [hc1]; decide))
        obtain ⟨nA, aA, nAL⟩ := HS1.out.ma
        have HPUT := Lib.hid (fun (W' : World) (hg : wr.grows W') => vput_any (w := W') (k := k1) (mp := .map (some ba)) (Sk := fun g => g < W'.heap.size) (HTK.out.1.keep (fun g _ hl => ⟨(hgr1.trans hg).row_eq hl, trivial⟩) fun _ _ _ h => h) HTK.out.2 (by
          obtain ⟨f, D, h1, h2⟩ := aA
          have hlt := h1.own.lt
          have hs := hg.below.size
          refine ⟨ba, nA, f, D, rfl, by omega, h1.grows hg, fun nm => ?_⟩
          have := h2 nm
          cases hk : k1 nm with
          | none => rw [hk] at this; exact this
          | some t2 =>
            rw [hk] at this
            obtain ⟨u, e1, e2, e3⟩ := this
            exact ⟨u, e1, e2.keep (fun g _ hl => ⟨hg.row_eq hl, by omega⟩) fun _ _ _ h => h, e3⟩) (fun g h => h))
        have HPL := Lib.hid (putAll_len k1 ts)
        have hrows1 : ∀ g, g < W.heap.size → g ≠ ba → g ≠ bc → wr.row g = W.row g := fun g hl h1 h2 => by
          have q1 := HR3.out.1
          exact (hrw1 g (by omega) h1 h2).trans ((HG34.out.row_eq (by omega)).trans (HR3.out.2 g hl h1 h2))
        have HRW := Lib.hid (show W.heap.size ≤ wr.heap.size ∧ ∀ g, g < W.heap.size → g ≠ ba → g ≠ bc → wr.row g = W.row g from ⟨by have := HR3.out.1; omega, hrows1⟩)
        have HAA := Lib.hid aA
        have HCOL : Hid (∀ x, setC col1 name 2 x = 1 ↔ col x = 1) := Lib.hid fun x => by
          by_cases e : x = name
          · subst e; simp [setC, HCN.out]
          · have := hg1 x
            simp only [setC, if_neg e] at this ⊢; exact this
        have HBLK : Hid (∀ x, col x = 2 → setC col1 name 2 x = 2) := Lib.hid fun x hx => by
          by_cases e : x = name
          · subst e; simp [setC]
          · have := hb1 x (by simp only [setC, if_neg e]; exact hx)
            simp only [setC, if_neg e]; exact this
        have hwb : wh (setC col1 name 2) bs = wh col1 bs := wh_black (by rw [hc1]; decide)
        clear aA hrows1 HV
        generalize hp : putAll k1 ts = p at *
        obtain ⟨po, pe⟩ := p
        clear hp
        go_upto_region 10 with (go_at_call 17; go_loud ((with_reducible refine (HPUT.out _ (by repeat (with_reducible first | assumption | exact grA | apply grB | apply grC | apply grD | refine grE ?_ (by omega) _ | refine grF ?_ (by omega) _ _))).mono ?_); rintro r w5 ⟨vR, rfl, hg5, hv5⟩; replace hv5 := hv5.keep (S' := fun g => wr.heap.size ≤ g ∧ g < w5.heap.size) (fun g hg _ => ⟨rfl, Nat.le_trans (World.grows.below (by repeat (with_reducible first | assumption | exact grA | apply grB | apply grC | apply grD | refine grE ?_ (by omega) _ | refine grF ?_ (by omega) _ _))).size hg.1, hg.2⟩) (fun _ _ _ h => h)))
        have hg15 : wr.grows w5 := World.grows.trans (by repeat (with_reducible first | assumption | exact grA | apply grB | apply grC | apply grD | refine grE ?_ (by omega) _ | refine grF ?_ (by omega) _ _)) hg5
        have HS5 := Lib.hid (HS1.out.grows hg15)
        have hs15 := hg15.below.size
        have hszB := HS1.out.sz
        have hqa := HX.out.qa
        have hqc := HX.out.qc
        obtain ⟨aR, cR, rfl, -, -⟩ := hv5.len
        have HV5 := Lib.hid hv5
        have HR5 := Lib.hid (show W.heap.size ≤ w5.heap.size ∧ ∀ g, g < W.heap.size → g ≠ ba → g ≠ bc → w5.row g = W.row g from ⟨by have := HRW.out.1; omega, fun g hl h1 h2 => by have := HRW.out.1; exact (hg15.row_eq (by omega)).trans (HRW.out.2 g hl h1 h2)⟩)
        obtain ⟨nC5, fC5, DC5, mc51, mc52, mc53⟩ := HS5.out.mc
        obtain ⟨nA5, aA5, nL5⟩ := HS5.out.ma
        have rc5 := HS5.out.rc
        have zrc5 := row_sz' rc5
        have ra5 := HS5.out.ra
        have zra5 := row_sz' ra5
        have HMC5 := Lib.hid (And.intro mc51 mc53)
        clear hv5 hg5 mc51 mc53
        by_cases hpe : pe = 0
        · subst hpe
          obtain ⟨fA, DA, mA1, mA2⟩ := aA5
          have HA2 := Lib.hid mA2
          have HA1 := Lib.hid mA1
          clear mA1 mA2
          go_upto_region 12 with (at_mapUpdate; go_loud (refine wpList_mapUpdate_own _ rfl (.tmp 55) (.tmp 56) (.tmp 57) 36 rfl 9 27 (string_keyed Tryz.underlying9) Tryz.underlying36 heldV ba nA5 DA rfl (HA1.out.grows (by repeat (with_reducible first | assumption | exact grA | apply grB | apply grC | apply grD | refine grE ?_ (by omega) _ | refine grF ?_ (by omega) _ _))).own (by simp only [maxLen]; omega) (.string name) (.slice aR po.length cR) (.string name.data.toList) rfl rfl (WideMaps.keyOf_string_mk Tryz.underlying9 hsz) (.held (.slice aR po.length cR)) [] rfl ?_); intro w6 hown6 hgr6)
          have hGG6 : w5.grownBy w6 (some ba) := grownBy_trans (grownBy_of_grows (by repeat (with_reducible first | assumption | exact grA | apply grB | apply grC | apply grD | refine grE ?_ (by omega) _ | refine grF ?_ (by omega) _ _)) _) hgr6 (fun q hq => .inl hq)
          have hr6 : ∀ g, g < w5.heap.size → g ≠ ba → w6.row g = w5.row g := fun g h1 h2 => row_growV hGG6 h1 (fun e => h2 (by injection e))
          have HR6 := Lib.hid (HS5.out.toVsR.step HX.out hGG6)
          have hs6 := hGG6.size
          have hA6 : Hid (ByAt w6 (fun g => g < w6.heap.size ∧ g ≠ ba ∧ g ≠ bc) ba (setK k1 name (okOf (po, 0))) (nA5 + 1)) := by
            refine Lib.hid ⟨_, _, HA1.out.put hown6, fun nm => ?_⟩
            by_cases e : nm = name
            · subst e
              have : setK k1 nm (okOf (po, 0)) nm = some po := by simp [setK, okOf]
              rw [this]
              exact ⟨_, by simp, HV5.out.keep (fun g hg hl => ⟨hr6 g hl (by omega), by omega, by omega, by omega⟩) (fun _ _ _ h => h), Nat.le_trans HPL.out (by decide)⟩
            · have : setK k1 name (okOf (po, 0)) nm = k1 nm := by simp [setK, e]
              rw [this]
              have h2 := HA2.out nm
              simp only [if_neg (ba_ne e)]
              cases hk : k1 nm with
              | none => rw [hk] at h2; exact h2
              | some t2 =>
                rw [hk] at h2
                obtain ⟨u, e1, e2, e3⟩ := h2
                exact ⟨u, e1, e2.keep (fun g hg hl => ⟨hr6 g hl hg.2.1, by omega, hg.2⟩) fun _ _ _ h => h, e3⟩
          have mc6 := HMC5.out.1.row (hr6 bc HMC5.out.1.own.lt HX.out.nc.2.2.2.2)
          have HW6 := Lib.hid (show W.heap.size ≤ w6.heap.size ∧ ∀ g, g < W.heap.size → g ≠ ba → g ≠ bc → w6.row g = W.row g from ⟨by have := HR5.out.1; omega, fun g hl h1 h2 => by have := HR5.out.1; exact (hr6 g (by omega) h1).trans (HR5.out.2 g hl h1 h2)⟩)
          have rc6 := HR6.out.rc
          have zrc6 := row_sz' rc6
          have HMC6 := Lib.hid mc6
          clear hown6 hgr6 hGG6 hr6 mc6 HS1 HS5 HAA
          go_wp2_with (at_mapUpdate; go_loud (refine wpList_mapUpdate_own _ rfl (.tmp 58) (.tmp 59) (.const (.int .i64 2)) 38 rfl 9 3 (string_keyed Tryz.underlying9) Tryz.underlying38 heldV bc nC5 DC5 rfl (HMC6.out.grows (by repeat (with_reducible first | assumption | exact grA | apply grB | apply grC | apply grD | refine grE ?_ (by omega) _ | refine grF ?_ (by omega) _ _))).own (by simp only [maxLen]; omega) (.string name) (.int .i64 2) (.string name.data.toList) rfl rfl (WideMaps.keyOf_string_mk Tryz.underlying9 hsz) (.held (.int .i64 2)) [] rfl ?_); intro w7 hown7 hgr7)
          have hGG7 : w6.grownBy w7 (some bc) := grownBy_trans (grownBy_of_grows (by repeat (with_reducible first | assumption | exact grA | apply grB | apply grC | apply grD | refine grE ?_ (by omega) _ | refine grF ?_ (by omega) _ _)) _) hgr7 (fun q hq => .inl hq)
          have HFIN := Lib.hid (HR6.out.colour HX.out HMC6.out HMC5.out.2 hGG7 hown7 (L' := L) (by decide) (by omega) ⟨_, hA6.out, by omega⟩ HVB.out)
          refine bodyPost_end (results_none rfl _ _ _) rfl ⟨rfl, _, _, HFIN.out.grows (by repeat (with_reducible first | assumption | exact grA | apply grB | apply grC | apply grD | refine grE ?_ (by omega) _ | refine grF ?_ (by omega) _ _)), by simp [setC], HCOL.out, HBLK.out, by omega, Nat.le_trans HW6.out.1 (Nat.le_trans hGG7.size (World.grows.below (by repeat (with_reducible first | assumption | exact grA | apply grB | apply grC | apply grD | refine grE ?_ (by omega) _ | refine grF ?_ (by omega) _ _))).size), fun g hl h1 h2 => ?_⟩
          have q1 := HW6.out.1
          exact (World.grows.row_eq (by repeat (with_reducible first | assumption | exact grA | apply grB | apply grC | apply grD | refine grE ?_ (by omega) _ | refine grF ?_ (by omega) _ _)) (Nat.lt_of_lt_of_le hl (Nat.le_trans q1 hGG7.size))).trans ((row_growV hGG7 (by omega) (fun e => h2 (by injection e))).trans (HW6.out.2 g hl h1 h2))
        · have hpb : (pe == 0) = false := by simpa using hpe
          have HKK : Hid (setK k1 name (okOf (po, pe)) = k1) := Lib.hid (by
            have : okOf (po, pe) = none := by unfold okOf; rw [if_neg hpe]
            rw [this]; exact setK_same HK0.out)
          rw [HKK.out] at HVB
          clear hpe HS1 HAA
          go_wp2_with (at_mapUpdate; go_loud (refine wpList_mapUpdate_own _ rfl (.tmp 58) (.tmp 59) (.const (.int .i64 2)) 38 rfl 9 3 (string_keyed Tryz.underlying9) Tryz.underlying38 heldV bc nC5 DC5 rfl (HMC5.out.1.grows (by repeat (with_reducible first | assumption | exact grA | apply grB | apply grC | apply grD | refine grE ?_ (by omega) _ | refine grF ?_ (by omega) _ _))).own (by simp only [maxLen]; omega) (.string name) (.int .i64 2) (.string name.data.toList) rfl rfl (WideMaps.keyOf_string_mk Tryz.underlying9 hsz) (.held (.int .i64 2)) [] rfl ?_); intro w7 hown7 hgr7)
          have hGG7 : w5.grownBy w7 (some bc) := grownBy_trans (grownBy_of_grows (by repeat (with_reducible first | assumption | exact grA | apply grB | apply grC | apply grD | refine grE ?_ (by omega) _ | refine grF ?_ (by omega) _ _)) _) hgr7 (fun q hq => .inl hq)
          have HFIN := Lib.hid (HS5.out.toVsR.colour HX.out HMC5.out.1 HMC5.out.2 hGG7 hown7 (L' := L) (by decide) (by omega) ⟨_, aA5, by omega⟩ HVB.out)
          refine bodyPost_end (results_none rfl _ _ _) rfl ⟨rfl, _, _, HFIN.out.grows (by repeat (with_reducible first | assumption | exact grA | apply grB | apply grC | apply grD | refine grE ?_ (by omega) _ | refine grF ?_ (by omega) _ _)), by simp [setC], HCOL.out, HBLK.out, by omega, Nat.le_trans HR5.out.1 (Nat.le_trans hGG7.size (World.grows.below (by repeat (with_reducible first | assumption | exact grA | apply grB | apply grC | apply grD | refine grE ?_ (by omega) _ | refine grF ?_ (by omega) _ _))).size), fun g hl h1 h2 => ?_⟩
          have q1 := HR5.out.1
          exact (World.grows.row_eq (by repeat (with_reducible first | assumption | exact grA | apply grB | apply grC | apply grD | refine grE ?_ (by omega) _ | refine grF ?_ (by omega) _ _)) (Nat.lt_of_lt_of_le hl (Nat.le_trans q1 hGG7.size))).trans ((row_growV hGG7 (by omega) (fun e => h2 (by injection e))).trans (HR5.out.2 g hl h1 h2))
  · exact absurd (HG.out name hc) HR.out
  · rw [hc] at hlc
    simp only [show ¬ (2 : Int) = 0 by decide, if_false, Option.getD_some] at hlc
    have HCN := Lib.hid hc
    clear hc
    go_enter Tryz.func15, Tryz.ntmps15
    go_wp2_with fail
    refine bodyPost_end (results_none rfl _ _ _) rfl ⟨rfl, col, k, HS.out.grows (by repeat (with_reducible first | assumption | exact grA | apply grB | apply grC | apply grD | refine grE ?_ (by omega) _ | refine grF ?_ (by omega) _ _)), HCN.out, fun x => Iff.rfl, fun x h => h, Nat.le_refl _, (World.grows.below (by repeat (with_reducible first | assumption | exact grA | apply grB | apply grC | apply grD | refine grE ?_ (by omega) _ | refine grF ?_ (by omega) _ _))).size, fun g hl _ _ => World.grows.row_eq (by repeat (with_reducible first | assumption | exact grA | apply grB | apply grC | apply grD | refine grE ?_ (by omega) _ | refine grF ?_ (by omega) _ _)) hl⟩
theorem vis_any {w1 : World} {B pc pm pr pv pa bc bm br ba : Nat} {m ab : Known} {bs : List ByteArray} (hX : VCx w1 B pc pm pr pv pa bc bm br ba m bs) (N : Nat) : VisC w1 B pc pm pr pv pa bc br ba m ab bs N := by
  induction N using Nat.strongRecOn with
  | _ N ih => exact vis_step hX N ih
end Go.Proofs.YthcaphoejplecaaGreatDoor

/- WALK over vars: Resolve. No condition but bounds. -/
namespace Go
open Go.RowKit Go.Maps
theorem ranges_rowV {H : Type} {P : Program} {k : TypeId} {R : Value → Option (DataW H × List MemPlace)} {w W : World} {b r n : Nat} {D : DataW H} {left : Lit → Bool} {cnt : Nat} (h : w.ranges P k R b r n D left cnt) (h1 : W.row b = w.row b) (h2 : W.row r = w.row r) : W.ranges P k R b r n D left cnt := by
  obtain ⟨es, clock, since, seen, c0, q1, q2, q3, q4, q5, rest⟩ := h
  exact ⟨es, clock, since, seen, c0, h1.trans q1, q2, q3, q4, h2.trans q5, rest⟩
theorem ranges_ltV {H : Type} {P : Program} {k : TypeId} {R : Value → Option (DataW H × List MemPlace)} {w : World} {b r n : Nat} {D : DataW H} {left : Lit → Bool} {cnt : Nat} (h : w.ranges P k R b r n D left cnt) : b < w.heap.size ∧ r < w.heap.size := by
  obtain ⟨es, clock, since, seen, c0, q1, q2, q3, q4, q5, rest⟩ := h
  exact ⟨(Array.getElem?_eq_some_iff.1 q1).1, (Array.getElem?_eq_some_iff.1 q5).1⟩
/-- what is inherited and not declared -/
def freeK (m ab : Known) : Known := fun x => if m x = none then ab x else none
end Go
namespace Go
open Go.RowKit
/-- a map told as a list, by the order of names -/
theorem Tells.of {k : Known} {ls : List ByteArray} (hr : RiseB ls) (hm : ∀ s, s ∈ ls ↔ k s ≠ none) : Tells k (ls.map fun n => ⟨n, (k n).getD []⟩) := by
  refine ⟨?_, fun c => ?_⟩
  · unfold RiseC
    rw [List.pairwise_map]
    exact hr
  · rw [List.mem_map]
    constructor
    · rintro ⟨n, hn, rfl⟩
      have := (hm n).1 hn
      simp only
      cases hk : k n with
      | none => exact absurd hk this
      | some ts => rfl
    · intro h
      refine ⟨c.n, (hm c.n).2 (by rw [h]; simp), ?_⟩
      rw [h]; rfl
end Go
namespace Go.Proofs.YthcaphoejplecaaGreatDoor
open Go.RowKit Go.Maps
/-- how Resolve ends -/
def ResPost (w : World) (m ab : Known) (e : Ending) (w' : World) : Prop := ∃ (r : Value) (cus : List Cu), e = .returned r ∧ w.grows w' ∧ IsRes m ab cus ∧ cus.length ≤ 4200000 ∧ CusAt w' (fun g => w.heap.size ≤ g ∧ g < w'.heap.size) r cus
set_option maxRecDepth 100000 in
set_option maxHeartbeats 8000000 in
theorem resolve_any {w : World} {v u : Value} {own down : List Cu} {So Sd : Nat → Prop} (ho : CusAt w So v own) (hol : own.length ≤ 64) (hd : CusAt w Sd u down) (hdl : down.length ≤ 4194304) (hSo : ∀ g, So g → g < w.heap.size) (hSd : ∀ g, Sd g → g < w.heap.size) :
    Calls Tryz.prog 6 #[v, u] w (ResPost w (findCu own) (findCu down)) := by
  have HB1 := Lib.hid (byN_any ho (by omega) hSo)
  have HB2 := Lib.hid (fun (W : World) (hg : w.grows W) => byN_any (w := W) (CusAt.grows hd hg) hdl (fun g h => Nat.lt_of_lt_of_le (hSd g h) hg.below.size))
  have HSO := Lib.hid (And.intro hSo hSd)
  have HNM := Lib.hid (fun n (h : findCu own n ≠ none) => findCu_names h)
  clear ho hd hSo hSd
  have hmk := fun (W : World) => run_makeMap (P := Tryz.prog) 36 W
  have hmk2 := fun (W : World) => run_makeMap (P := Tryz.prog) 38 W
  obtain ⟨m, hmm⟩ : ∃ m, findCu own = m := ⟨_, rfl⟩
  obtain ⟨ab, hab⟩ : ∃ ab, findCu down = ab := ⟨_, rfl⟩
  have HMM := Lib.hid hmm
  have HAB := Lib.hid hab
  rw [hmm] at HNM
  rw [hmm, hab]
  clear hmm hab
  go_enter Tryz.func6, Tryz.ntmps6
  go_upto_region 2 with (first | (go_at_call 13; go_loud ((with_reducible refine HB1.out.mono ?_); rintro r w1 ⟨bm, nm, rfl, hg1, hbm, hnm, hby1⟩; (rw [HMM.out] at hby1); (have HY1 := Lib.hid hby1); clear hby1)) | (go_at_call 13; go_loud ((with_reducible refine (HB2.out _ (hg1.trans (by repeat (with_reducible first | assumption | exact grA | apply grB | apply grC | apply grD | refine grE ?_ (by omega) _ | refine grF ?_ (by omega) _ _)))).mono ?_); rintro r w2 ⟨bd, nd, rfl, hg2, hbd, hnd, hby2⟩; (rw [HAB.out] at hby2); (have HY2 := Lib.hid hby2); (have hg12 : w1.grows w2 := World.grows.trans (by repeat (with_reducible first | assumption | exact grA | apply grB | apply grC | apply grD | refine grE ?_ (by omega) _ | refine grF ?_ (by omega) _ _)) hg2); clear hby2)))
  have hgx : w2.grows (w2.alloc (.cells #[.map (some bm)] 36)) := (by repeat (with_reducible first | assumption | exact grA | apply grB | apply grC | apply grD | refine grE ?_ (by omega) _ | refine grF ?_ (by omega) _ _))
  have HRI := Lib.hid (rings_any (HY1.out.keep (S' := So) ((hg12.trans hgx).row_eq (by obtain ⟨f, D, q1, _⟩ := HY1.out; exact q1.own.lt)) fun g hg hl => ⟨(hg12.trans hgx).row_eq hl, hg⟩) (Nat.le_trans hnm hol))
  have hpm : (w2.alloc (.cells #[.map (some bm)] 36)).row w2.heap.size = some (.cells #[.map (some bm)] 36) := by simp [go_sem]
  have hszx : (w2.alloc (.cells #[.map (some bm)] 36)).heap.size = w2.heap.size + 1 := by simp
  generalize w2.alloc (.cells #[.map (some bm)] 36) = wx at *
  obtain ⟨pm, hpme⟩ : ∃ pm, w2.heap.size = pm := ⟨_, rfl⟩
  rw [hpme] at hpm
  rw [hpme]
  have zpm := row_sz' hpm
  go_upto_region 3 with (go_at_call 14; go_loud ((with_reducible refine HRI.out.mono ?_); rintro r w3 ⟨br, nr, fr, Dr, rfl, hg3, hbr, hnr, hmr, hring⟩; (have HMR := Lib.hid (And.intro hmr hring)); clear hmr hring))
  go_upto_region 4 with fail
  have hg34 : w3.grows (((w3.alloc (.cells #[.map (some br)] 38)).alloc (Obj.map #[] 0)).alloc (.cells #[.map (some (w3.heap.size + 1))] 36)) := (by repeat (with_reducible first | assumption | exact grA | apply grB | apply grC | apply grD | refine grE ?_ (by omega) _ | refine grF ?_ (by omega) _ _))
  have hr4 : (((w3.alloc (.cells #[.map (some br)] 38)).alloc (Obj.map #[] 0)).alloc (.cells #[.map (some (w3.heap.size + 1))] 36)).row w3.heap.size = some (.cells #[.map (some br)] 38) := by simp [go_sem]
  have hra4 : (((w3.alloc (.cells #[.map (some br)] 38)).alloc (Obj.map #[] 0)).alloc (.cells #[.map (some (w3.heap.size + 1))] 36)).row (w3.heap.size + 1 + 1) = some (.cells #[.map (some (w3.heap.size + 1))] 36) := by simp [go_sem]
  have hma4 : MpS (((w3.alloc (.cells #[.map (some br)] 38)).alloc (Obj.map #[] 0)).alloc (.cells #[.map (some (w3.heap.size + 1))] 36)) (w3.heap.size + 1) 0 (fun _ => none) (.map []) := by
    have h := MpS.made (w3.alloc (.cells #[.map (some br)] 38))
    have e : (w3.alloc (.cells #[.map (some br)] 38)).heap.size = w3.heap.size + 1 := by simp
    rw [e] at h
    exact h.grows (World.grows.alloc World.grows.refl _)
  have hsz4 : (((w3.alloc (.cells #[.map (some br)] 38)).alloc (Obj.map #[] 0)).alloc (.cells #[.map (some (w3.heap.size + 1))] 36)).heap.size = w3.heap.size + 1 + 1 + 1 := by simp
  generalize (((w3.alloc (.cells #[.map (some br)] 38)).alloc (Obj.map #[] 0)).alloc (.cells #[.map (some (w3.heap.size + 1))] 36)) = w4 at *
  obtain ⟨q, hq⟩ : ∃ q, w3.heap.size = q := ⟨_, rfl⟩
  have HQ := Lib.hid hq
  rw [hq] at hr4 hra4 hma4 hsz4
  rw [hq]
  clear hq
  have hsx3 := hg3.below.size
  have hg13 : w1.grows w3 := (hg12.trans hgx).trans hg3
  have hgw4 : w.grows w4 := (hg1.trans hg13).trans hg34
  obtain ⟨fd, Dd, hmd, hkd⟩ := HY2.out
  have HKD := Lib.hid hkd
  have hg24 : w2.grows w4 := (hgx.trans hg3).trans hg34
  have hmd4 := hmd.grows hg24
  have HMD4 := Lib.hid hmd4
  have hmdsz := hmd4.own.size_le
  obtain ⟨fm, Dm, hmm1, hkm⟩ := HY1.out
  have HM1 := Lib.hid hmm1
  have HKM := Lib.hid hkm
  have hpm4 := ((hg3.trans hg34).row_eq zpm.1).trans hpm
  have zpm4 := row_sz' hpm4
  have HR4 := Lib.hid (And.intro hr4 (And.intro hra4 hma4))
  have hbdl := hmd4.own.lt
  have hmdl2 := hmd.own.lt
  clear hmd hkd hmd4 hmm1 hkm hpm zpm hr4 hra4 hma4 HRI
  go_wp2_with (at_range; go_loud (refine wpList_range_own _ rfl _ 36 rfl 9 27 (string_keyed Tryz.underlying9) Tryz.underlying36 heldV bd nd Dd rfl HMD4.out.own ?_); intro w5 hrg5 hgr5 hs5)
  go_frame
  rw [hsz4]
  have hg35 : w3.grows w5 := World.grows.grown hg34 hgr5 (fun _ h => nomatch h)
  have hr5 : ∀ g, g < w4.heap.size → w5.row g = w4.row g := fun g hl => row_growV hgr5 hl (fun h => nomatch h)
  rw [hsz4] at hrg5
  have HS5 := Lib.hid (show (∀ g, g < w4.heap.size → g ≠ q + 1 → w5.row g = w4.row g) ∧ w5.ranges Tryz.prog 9 heldV bd (q + 1 + 1 + 1) nd Dd (Maps.has Dd) (Maps.size Dd) ∧ MpS w5 (q + 1) 0 (fun _ => none) (.map []) ∧ 0 + Maps.size Dd ≤ nd ∧ ∀ x : ByteArray, (none : Option Value) = if m x = none ∧ Maps.has Dd (.string x.data.toList) = false then fd x.data.toList else none from
    ⟨fun g hl _ => hr5 g hl, hrg5, HR4.out.2.2.row (hr5 _ (by omega)), by omega, fun x => by
      by_cases h : m x = none ∧ Maps.has Dd (.string x.data.toList) = false
      · rw [if_pos h]
        have h2 := h.2
        rw [HMD4.out.has] at h2
        have h3 : fd x.data.toList = none := by simpa using h2
        exact h3.symm
      · rw [if_neg h]⟩)
  clear hrg5 hgr5 hr5
  go_loopg [29] (Maps.size Dd) (fun gn v29 wj => ∃ (n : Nat) (f : List UInt8 → Option Value) (D : DataW Value) (left : Lit → Bool) (cnt : Nat), Hid (gn = cnt) ∧ w3.grows wj ∧ Hid ((∀ g, g < w4.heap.size → g ≠ q + 1 → wj.row g = w4.row g) ∧ wj.ranges Tryz.prog 9 heldV bd (q + 1 + 1 + 1) nd Dd left cnt ∧ MpS wj (q + 1) n f D ∧ n + cnt ≤ nd ∧ ∀ x : ByteArray, f x.data.toList = if m x = none ∧ left (.string x.data.toList) = false then fd x.data.toList else none))
  case atStart => exact ⟨0, _, _, _, _, Lib.hid rfl, hg35, HS5⟩
  case round =>
    obtain ⟨n, f, D, left, cnt, HC, hgj, HI⟩ := hrel
    obtain ⟨i1, i2, i3, i4, i5⟩ := HI.out
    have hlts := ranges_ltV i2
    go_wp2_with (at_next; go_loud (refine wpList_next_ranges _ rfl _ rfl 9 (string_keyed Tryz.underlying9) heldV Value.string (id : Value → Value) (fun key kl hkey => Maps.keyOf_string_inv Tryz.underlying9 hkey) (fun v y _ => ⟨v, rfl⟩) bd (q + 1 + 1 + 1) nd Dd left cnt rfl i2 ?_ ?_))
    · intro hc0 hl0
      have hAll : ByAt wr (fun g => g < wr.heap.size ∧ g ≠ q + 1) (q + 1) (freeK m ab) n := by
        refine ⟨f, D, i3, fun x => ?_⟩
        have h1 := i5 x
        rw [hl0] at h1
        have h2 := HKD.out x
        unfold freeK
        cases hmx : m x with
        | some ts =>
          rw [hmx] at h1
          simpa using h1
        | none =>
          rw [hmx] at h1
          simp only [true_and, if_true] at h1 ⊢
          cases hax : ab x with
          | none => rw [hax] at h2; rw [h1]; exact h2
          | some ts =>
            rw [hax] at h2
            obtain ⟨u2, e1, e2, e3⟩ := h2
            refine ⟨u2, h1.trans e1, e2.keep (fun g hg hl => ?_) (fun _ _ _ h => h), e3⟩
            have q1 := HSO.out.2 g hg
            have q2 := hg1.below.size
            have q3 := hg13.below.size
            have q4 := hg24.below.size
            have q5 := HQ.out
            have q6 := hgj.below.size
            exact ⟨(i1 g (by omega) (by omega)).trans (hg24.row_eq hl), by omega, by omega⟩
      have HALL := Lib.hid hAll
      have hnn : n ≤ nd := by omega
      have hqr := HQ.out
      have hsj := hgj.below.size
      have hbal := i3.own.lt
      have hpml := zpm4.1
      have hpm6 := (i1 pm (by omega) (by omega)).trans hpm4
      have hr6 := (i1 q (by omega) (by omega)).trans HR4.out.1
      have hra6 := (i1 (q + 1 + 1) (by omega) (by omega)).trans HR4.out.2.1
      have HR6 := Lib.hid (And.intro hpm6 (And.intro hr6 hra6))
      have hrl := hlts.2
      clear hAll i1 i2 i3 i4 i5 HI hl0 hc0 hpm6 hr6 hra6 hlts HS5 HKD
      go_upto_region 13 with fail
      have hg8 : wr.grows (((wr.alloc (Obj.map #[] 0)).alloc (Obj.cells #[Value.map (some wr.heap.size)] 38)).alloc (Obj.cells #[Value.func (Fn.func 15) #[] #[Value.pointer (some ⟨wr.heap.size + 1, 0, none⟩), Value.pointer (some ⟨pm, 0, none⟩), Value.pointer (some ⟨q, 0, none⟩), Value.pointer (some ⟨wr.heap.size + 1 + 1, 0, none⟩), Value.pointer (some ⟨q + 1 + 1, 0, none⟩)]] 41)) := (by repeat (with_reducible first | assumption | exact grA | apply grB | apply grC | apply grD | refine grE ?_ (by omega) _ | refine grF ?_ (by omega) _ _))
      have hrc8 : (((wr.alloc (Obj.map #[] 0)).alloc (Obj.cells #[Value.map (some wr.heap.size)] 38)).alloc (Obj.cells #[Value.func (Fn.func 15) #[] #[Value.pointer (some ⟨wr.heap.size + 1, 0, none⟩), Value.pointer (some ⟨pm, 0, none⟩), Value.pointer (some ⟨q, 0, none⟩), Value.pointer (some ⟨wr.heap.size + 1 + 1, 0, none⟩), Value.pointer (some ⟨q + 1 + 1, 0, none⟩)]] 41)).row (wr.heap.size + 1) = some (.cells #[.map (some wr.heap.size)] 38) := by simp [go_sem]
      have hrv8 : (((wr.alloc (Obj.map #[] 0)).alloc (Obj.cells #[Value.map (some wr.heap.size)] 38)).alloc (Obj.cells #[Value.func (Fn.func 15) #[] #[Value.pointer (some ⟨wr.heap.size + 1, 0, none⟩), Value.pointer (some ⟨pm, 0, none⟩), Value.pointer (some ⟨q, 0, none⟩), Value.pointer (some ⟨wr.heap.size + 1 + 1, 0, none⟩), Value.pointer (some ⟨q + 1 + 1, 0, none⟩)]] 41)).row (wr.heap.size + 1 + 1) = some (.cells #[Value.func (Fn.func 15) #[] #[Value.pointer (some ⟨wr.heap.size + 1, 0, none⟩), Value.pointer (some ⟨pm, 0, none⟩), Value.pointer (some ⟨q, 0, none⟩), Value.pointer (some ⟨wr.heap.size + 1 + 1, 0, none⟩), Value.pointer (some ⟨q + 1 + 1, 0, none⟩)]] 41) := by simp [go_sem]
      have hmc8 : MpI (((wr.alloc (Obj.map #[] 0)).alloc (Obj.cells #[Value.map (some wr.heap.size)] 38)).alloc (Obj.cells #[Value.func (Fn.func 15) #[] #[Value.pointer (some ⟨wr.heap.size + 1, 0, none⟩), Value.pointer (some ⟨pm, 0, none⟩), Value.pointer (some ⟨q, 0, none⟩), Value.pointer (some ⟨wr.heap.size + 1 + 1, 0, none⟩), Value.pointer (some ⟨q + 1 + 1, 0, none⟩)]] 41)) wr.heap.size 0 (fun _ => none) (.map []) := ((MpI.made wr).grows (World.grows.alloc World.grows.refl _)).grows (World.grows.alloc World.grows.refl _)
      have hsz8 : (((wr.alloc (Obj.map #[] 0)).alloc (Obj.cells #[Value.map (some wr.heap.size)] 38)).alloc (Obj.cells #[Value.func (Fn.func 15) #[] #[Value.pointer (some ⟨wr.heap.size + 1, 0, none⟩), Value.pointer (some ⟨pm, 0, none⟩), Value.pointer (some ⟨q, 0, none⟩), Value.pointer (some ⟨wr.heap.size + 1 + 1, 0, none⟩), Value.pointer (some ⟨q + 1 + 1, 0, none⟩)]] 41)).heap.size = wr.heap.size + 1 + 1 + 1 := by simp
      generalize (((wr.alloc (Obj.map #[] 0)).alloc (Obj.cells #[Value.map (some wr.heap.size)] 38)).alloc (Obj.cells #[Value.func (Fn.func 15) #[] #[Value.pointer (some ⟨wr.heap.size + 1, 0, none⟩), Value.pointer (some ⟨pm, 0, none⟩), Value.pointer (some ⟨q, 0, none⟩), Value.pointer (some ⟨wr.heap.size + 1 + 1, 0, none⟩), Value.pointer (some ⟨q + 1 + 1, 0, none⟩)]] 41)) = w8 at *
      obtain ⟨c, hcc⟩ : ∃ c, wr.heap.size = c := ⟨_, rfl⟩
      rw [hcc] at hrc8 hrv8 hmc8 hsz8
      rw [hcc]
      have HCC := Lib.hid hcc
      clear hcc
      have hcq := HCC.out
      have hbsl : (own.map Cu.n).length ≤ 64 := by simpa using hol
      generalize hbs : own.map Cu.n = bs at *
      clear hbs
      have hg38 := hgj.trans hg8
      have hbml := HM1.out.own.lt
      have hs13 := hg13.below.size
      have HX : Hid (VCx w3 (c + 1 + 1 + 1) (c + 1) pm q (c + 1 + 1) (q + 1 + 1) c bm br (q + 1) m bs) := Lib.hid ⟨by omega, by omega, by omega, by omega, by omega, by omega, by omega, by omega, by
          have h1 := HR6.out.1
          have h2 := hgj.row_eq (show pm < w3.heap.size by omega)
          exact h2.symm.trans h1, ⟨nm, (show ByAt w1 So bm m nm from HY1.out).keep (hg13.row_eq hbml) fun g hg hl => ⟨hg13.row_eq hl, by omega⟩⟩, ⟨nr, fr, Dr, HMR.out.1, HMR.out.2⟩, HNM.out⟩
      have HV8 : Hid (VsS w3 (c + 1 + 1 + 1) (c + 1) pm q (c + 1 + 1) (q + 1 + 1) c br (q + 1) m ab bs w8 (fun _ => 0) (freeK m ab) 4194600) := by
        have hwh : wh (fun _ => 0) bs ≤ 64 := Nat.le_trans (List.length_filter_le _ _) hbsl
        refine Lib.hid ⟨⟨hg38, by omega, hrc8, (hg8.row_eq (by omega)).trans HR6.out.2.1, ⟨_, hrv8⟩, (hg8.row_eq (by omega)).trans HR6.out.2.2⟩, ⟨0, _, _, hmc8, by omega, fun x => by simp⟩, ⟨n, HALL.out.keep (hg8.row_eq (by omega)) fun g hg hl => ⟨hg8.row_eq hl, by omega, hg.2, by omega⟩, by omega⟩, VInv.start m ab⟩
      have hpm8 := (hg8.row_eq (show pm < wr.heap.size by omega)).trans HR6.out.1
      have zpm8 := row_sz' hpm8
      have HSK := Lib.hid (sortedV_any (HM1.out.grows (hg13.trans hg38)) (by omega))
      have HGV := Lib.hid (And.intro hgj (And.intro hg8 hg38))
      have HCQ := Lib.hid (show wr.heap.size ≤ c ∧ w3.heap.size ≤ q ∧ q + 1 + 1 + 1 < c ∧ c + 1 + 1 < w8.heap.size by omega)
      clear hrc8 hrv8 hmc8 HALL HR6 hg8 hg38 hgj hcq hsz8
      go_upto_region 14 with (first | (go_at_call 19; go_loud ((with_reducible refine (keysV_any _ _).mono ?_); rintro e w' ⟨rfl, rfl⟩)) | (go_at_call 18; go_loud ((with_reducible refine HSK.out.mono ?_); rintro e w9 ⟨vB, ns, rfl, hg9, HB, hN⟩; (obtain ⟨aB, cB, rfl, -, -⟩ := hN.len); (have HN := Lib.hid hN); clear hN)))
      have HV9 := Lib.hid (HV8.out.grows hg9)
      have hs89 := hg9.below.size
      go_loopg [51] ns.length (fun gn v51 wj => ∃ (i : Nat) (col : ByteArray → Int) (k : Known), Hid (gn + i = ns.length ∧ i ≤ ns.length) ∧ v51 = .int .i64 i ∧ Hid (VsS w3 (c + 1 + 1 + 1) (c + 1) pm q (c + 1 + 1) (q + 1 + 1) c br (q + 1) m ab bs wj col k 4194600 ∧ (∀ x, col x ≠ 1) ∧ (∀ x ∈ ns.take i, ¬ Leans m x x → col x = 2) ∧ w9.heap.size ≤ wj.heap.size ∧ ∀ g, g < w9.heap.size → g ≠ q + 1 → g ≠ c → wj.row g = w9.row g))
      case atStart => exact ⟨0, _, _, Lib.hid ⟨by simp, Nat.zero_le _⟩, by go_num, Lib.hid ⟨HV9.out.grows (by repeat (with_reducible first | assumption | exact grA | apply grB | apply grC | apply grD | refine grE ?_ (by omega) _ | refine grF ?_ (by omega) _ _)), fun x => by decide, fun x hx => by simp at hx, (World.grows.below (by repeat (with_reducible first | assumption | exact grA | apply grB | apply grC | apply grD | refine grE ?_ (by omega) _ | refine grF ?_ (by omega) _ _))).size, fun g hl _ _ => World.grows.row_eq (by repeat (with_reducible first | assumption | exact grA | apply grB | apply grC | apply grD | refine grE ?_ (by omega) _ | refine grF ?_ (by omega) _ _)) hl⟩⟩
      case round =>
        obtain ⟨i, col, k, HQ2, rfl, HI⟩ := hrel
        obtain ⟨j1, j2⟩ := HQ2.out
        obtain ⟨i1, i2, i3, i4, i5⟩ := HI.out
        by_cases hlt : i < ns.length
        · have iI : (i : Int) < (ns.length : Int) := by omega
          have ii0 : (0 : Int) ≤ (i : Int) := by omega
          have iw : IntKind.i64.wrap ((i : Int) + 1) = (i : Int) + 1 := by rw [IntKind.wrap_i64]; have := HB.out.2.2; omega
          have hgt : ns[i]? = some ns[i] := List.getElem?_eq_getElem hlt
          obtain ⟨g, off, cs, rfl, hSg, -, k1, rfl, hsz⟩ := HN.out.elt hgt
          have HGT := Lib.hid hgt
          have hmem := List.getElem_mem hlt
          have hmn : m ns[i] ≠ none := by
            have h1 := (HB.out.2.1 ns[i]).1 hmem
            have h2 := HKM.out ns[i]
            intro e; rw [e] at h2; exact h1 h2
          generalize ns[i] = nm2 at *
          have c0 := k1.cell (j := 0) rfl
          rw [World.cell?_row, Nat.add_zero, Nat.mul_one] at c0
          have hq3 := HCQ.out
          rw [← i5 g k1.lt (by omega) (by omega)] at c0
          have z3 := lt_sz (Nat.lt_of_lt_of_le k1.lt i4)
          have rr := i1.rr
          have zrr := row_sz' rr
          obtain ⟨tyv, rv⟩ := i1.rv
          have zrv := row_sz' rv
          have hlr := (HMR.out.1.grows i1.gr).look nm2 hsz
          have HI1 := Lib.hid i1
          have HI5 := Lib.hid i5
          have HI3 := Lib.hid i3
          rcases HMR.out.2 nm2 with ⟨hf, hrn⟩ | ⟨hf, hrn⟩
          · rw [hf] at hlr
            simp only [Option.getD_some] at hlr
            have HRN := Lib.hid hrn
            clear hf hrn i5 i3 i1 k1 hgt HI
            go_wp2_with fail
            go_roundg (ns.length - (i + 1))
            case measure => omega
            case rel => exact ⟨i + 1, col, k, Lib.hid ⟨by omega, by omega⟩, by go_num, Lib.hid ⟨HI1.out.grows (by repeat (with_reducible first | assumption | exact grA | apply grB | apply grC | apply grD | refine grE ?_ (by omega) _ | refine grF ?_ (by omega) _ _)), i2, fun x hx hr => by
              rcases (mem_take_succ HGT.out).1 hx with h1 | h1
              · exact HI3.out x h1 hr
              · exact absurd (h1 ▸ HRN.out) hr, Nat.le_trans i4 (World.grows.below (by repeat (with_reducible first | assumption | exact grA | apply grB | apply grC | apply grD | refine grE ?_ (by omega) _ | refine grF ?_ (by omega) _ _))).size, fun g hl h1 h2 => (World.grows.row_eq (by repeat (with_reducible first | assumption | exact grA | apply grB | apply grC | apply grD | refine grE ?_ (by omega) _ | refine grF ?_ (by omega) _ _)) (by omega)).trans (HI5.out g hl h1 h2)⟩⟩
          · rw [hf] at hlr
            simp only [Option.getD_none] at hlr
            have HVIS := Lib.hid (fun (W' : World) (hg : wr.grows W') => vis_any (ab := ab) HX.out (wh col bs) W' col k 4194600 nm2 (Nat.le_refl _) (HI1.out.grows hg) (by decide) hmn hrn (fun x hx => absurd hx (i2 x)) hsz)
            have HRN := Lib.hid hrn
            clear hf hrn i5 i3 i1 k1 hgt HI hmn
            go_wp2_with (go_at_call 15; go_loud ((with_reducible refine (HVIS.out _ (by repeat (with_reducible first | assumption | exact grA | apply grB | apply grC | apply grD | refine grE ?_ (by omega) _ | refine grF ?_ (by omega) _ _))).mono ?_); rintro r w10 ⟨rfl, col2, k2, p1, p2, p3, p4, p5, p6, p7⟩))
            have hGW : ∀ g, g < wr.heap.size → g ≠ q + 1 → g ≠ c → w10.row g = wr.row g := fun g hl h1 h2 => (p7 g (Nat.lt_of_lt_of_le hl (World.grows.below (by repeat (with_reducible first | assumption | exact grA | apply grB | apply grC | apply grD | refine grE ?_ (by omega) _ | refine grF ?_ (by omega) _ _))).size) h1 h2).trans (World.grows.row_eq (by repeat (with_reducible first | assumption | exact grA | apply grB | apply grC | apply grD | refine grE ?_ (by omega) _ | refine grF ?_ (by omega) _ _)) hl)
            have hsW : wr.heap.size ≤ w10.heap.size := Nat.le_trans (World.grows.below (by repeat (with_reducible first | assumption | exact grA | apply grB | apply grC | apply grD | refine grE ?_ (by omega) _ | refine grF ?_ (by omega) _ _))).size p6
            go_roundg (ns.length - (i + 1))
            case measure => omega
            case rel => exact ⟨i + 1, col2, k2, Lib.hid ⟨by omega, by omega⟩, by go_num, Lib.hid ⟨p1.grows (by repeat (with_reducible first | assumption | exact grA | apply grB | apply grC | apply grD | refine grE ?_ (by omega) _ | refine grF ?_ (by omega) _ _)), fun x hx => i2 x ((p3 x).1 hx), fun x hx hr => by
              rcases (mem_take_succ HGT.out).1 hx with h1 | h1
              · exact p4 x (HI3.out x h1 hr)
              · rw [h1]; exact p2, Nat.le_trans i4 (Nat.le_trans hsW (World.grows.below (by repeat (with_reducible first | assumption | exact grA | apply grB | apply grC | apply grD | refine grE ?_ (by omega) _ | refine grF ?_ (by omega) _ _))).size), fun g hl h1 h2 => (World.grows.row_eq (by repeat (with_reducible first | assumption | exact grA | apply grB | apply grC | apply grD | refine grE ?_ (by omega) _ | refine grF ?_ (by omega) _ _)) (by omega)).trans ((hGW g (by omega) h1 h2).trans (HI5.out g hl h1 h2))⟩⟩
        · have iI : ¬ (i : Int) < (ns.length : Int) := by omega
          obtain rfl : i = ns.length := by omega
          rw [List.take_length] at i3
          have hsol := i1.inv.sol (fun x hx hr => i3 x ((HB.out.2.1 x).2 fun e => by
            have h2 := HKM.out x
            cases hmx : m x with
            | none => exact hx hmx
            | some ts => rw [hmx] at h2; obtain ⟨u2, e1, _⟩ := h2; rw [e] at e1; cases e1) hr)
          obtain ⟨nA, aA, nAL⟩ := i1.ma
          obtain ⟨fA, DA, mA1, mA2⟩ := aA
          have ra := i1.ra
          have zra := row_sz' ra
          have HSOL := Lib.hid hsol
          have HMA := Lib.hid mA1
          have HKA := Lib.hid mA2
          have hgwr : w.grows wr := (hg1.trans hg13).trans i1.gr
          have hsgw := hgwr.below.size
          have HSK2 := Lib.hid (sortedV_any mA1 (by omega))
          have hqq := HCQ.out
          have hsz3 : c + 1 + 1 < wr.heap.size := by omega
          clear hsol mA1 mA2 i1 i2 i3 i5 HI HV9 HV8 HX HCQ HSK HN HB HMR HM1 HKM
          go_wp2_with (first | (go_at_call 19; go_loud ((with_reducible refine (keysV_any _ _).mono ?_); rintro e w' ⟨rfl, rfl⟩)) | (go_at_call 18; go_loud ((with_reducible refine HSK2.out.mono ?_); rintro e w11 ⟨vC, ls, rfl, hg11, HB2, hN2⟩; (obtain ⟨aD, cD, rfl, -, -⟩ := hN2.len); (have HN2 := Lib.hid hN2); clear hN2)))
          have hls := HB2.out.2.2
          have hw11 := hgwr.trans hg11
          have hsz11 := hg11.below.size
          have HTL := Lib.hid (Tells.of (k := k) HB2.out.1 (fun s => by
            rw [HB2.out.2.1 s]
            have h2 := HKA.out s
            cases hk : k s with
            | none => rw [hk] at h2; simp [h2]
            | some ts => rw [hk] at h2; obtain ⟨u2, e1, _⟩ := h2; simp [e1]))
          obtain ⟨cus, hcus⟩ : ∃ cus, (ls.map fun n => (⟨n, (k n).getD []⟩ : Cu)) = cus := ⟨_, rfl⟩
          rw [hcus] at HTL
          have hcl : cus.length = ls.length := by rw [← hcus]; simp
          have HCU := Lib.hid (And.intro hcus hcl)
          clear hcus hcl
          go_loopg [17, 67] ls.length (fun gn v17 v67 wj => ∃ (i : Nat) (a : Option Addr) (cc : Nat), Hid (gn + i = ls.length ∧ i ≤ ls.length) ∧ v67 = .int .i64 i ∧ v17 = .slice a i cc ∧ w11.grows wj ∧ Hid (OwnAt wj w11.heap.size 30 2 (CuR wj (fun g => w11.heap.size ≤ g ∧ g < wj.heap.size ∧ (Value.slice a i cc).ownBlock ≠ some g)) (.slice a i cc) (cus.take i)))
          case atStart => exact ⟨0, none, 0, Lib.hid ⟨by simp, Nat.zero_le _⟩, by go_num, rfl, (by repeat (with_reducible first | assumption | exact grA | apply grB | apply grC | apply grD | refine grE ?_ (by omega) _ | refine grF ?_ (by omega) _ _)), Lib.hid ⟨[], by simp, fun i x cs h => by simp at h, by simpa using World.ownsRow_nil _ _ _ _⟩⟩
          case round =>
            obtain ⟨i, a1, c1, HQ3, rfl, rfl, hgj, HO⟩ := hrel
            obtain ⟨j1, j2⟩ := HQ3.out
            by_cases hlt : i < ls.length
            · have iI : (i : Int) < (ls.length : Int) := by omega
              have ii0 : (0 : Int) ≤ (i : Int) := by omega
              have iw : IntKind.i64.wrap ((i : Int) + 1) = (i : Int) + 1 := by rw [IntKind.wrap_i64]; omega
              have hgt : ls[i]? = some ls[i] := List.getElem?_eq_getElem hlt
              obtain ⟨g, off, cs, rfl, hSg, -, k1, rfl, hsz⟩ := HN2.out.elt hgt
              have hcg : cus[i]? = some ⟨ls[i], (k ls[i]).getD []⟩ := by rw [← HCU.out.1, List.getElem?_map, hgt]; rfl
              have hmn : k ls[i] ≠ none := by
                have h1 := (HB2.out.2.1 ls[i]).1 (List.getElem_mem hlt)
                have h2 := HKA.out ls[i]
                intro e; rw [e] at h2; exact h1 h2
              generalize ls[i] = nm2 at *
              have k2 := k1.grows hgj
              have z3 := lt_sz k2.lt
              have c0 := k2.cell (j := 0) rfl
              rw [World.cell?_row, Nat.add_zero, Nat.mul_one] at c0
              obtain ⟨ts, hts⟩ : ∃ ts, k nm2 = some ts := by
                cases hk : k nm2 with
                | none => exact absurd hk hmn
                | some ts => exact ⟨ts, rfl⟩
              have hkx := HKA.out nm2
              rw [hts] at hkx
              obtain ⟨uT, hfu, htk, htl⟩ := hkx
              obtain ⟨aT, cT, rfl, -, -⟩ := htk.len
              have hg1j := hg11.trans hgj
              have hlk : (Instr.lookup 36 (.map (some (q + 1))) (.string nm2) false).run Tryz.prog wr = .ok (.slice aT ts.length cT) wr := by
                rw [(HMA.out.grows hg1j).look nm2 hsz, hfu]; rfl
              obtain ⟨t1, t2, t3⟩ := tks_cells (htk.grows hg1j fun _ _ _ h => h)
              have ra2 := (hg1j.row_eq zra.1).trans ra
              have zra2 := row_sz' ra2
              have HT1 := Lib.hid t1
              have HT2 := Lib.hid t2
              have HT3 := Lib.hid t3
              have HONE := Lib.hid (one_tks ts)
              have HCG := Lib.hid (show cus.take (i + 1) = cus.take i ++ [⟨nm2, ts⟩] by rw [List.take_add_one, hcg, hts]; rfl)
              have HTL2 := Lib.hid htl
              obtain ⟨css, q1, q2, q3⟩ := HO.out
              have hlen : (cus.take i).length = i := by rw [List.length_take, HCU.out.2]; omega
              rw [hlen] at q3
              have HQ3 := Lib.hid q3
              have HC12 := Lib.hid (And.intro q1 q2)
              have hsj := hgj.below.size
              have htl5 : ts.length ≤ 4194304 := htl
              have hil : i ≤ 4194600 := by omega
              clear k1 k2 hmn hts hfu htk htl t1 t2 t3 hgt hcg q1 q2 q3 HO
              go_upto_region 24 with (first | ((at_builtin; refine wpList_appS w11 (wr.heap.size) rfl (.const (.slice none 0 0)) (.tmp 75) _ rfl 65 (.agg #[.int .i64 0, .string ByteArray.empty, .int .i64 0, .int .i64 0, .bool false, .bool false]) 6 48 Tryz.underlying27 (by kernel_rfl) rfl (by omega) (by omega) _ 0 _ rfl ((World.ownsRow_nil _ _ _ _)) _ ts.length _ (ts.flatMap Tk.cs) rfl HT1.out HT3.out HONE.out (by omega) (by repeat (with_reducible first | assumption | exact grA | apply grB | apply grC | apply grD | refine grE ?_ (by omega) _ | refine grF ?_ (by omega) _ _)) (by omega) (by first | omega | (simp <;> omega)) ?_; intro v' w' hg' HO' HR' HG' HA'); (obtain ⟨aC, cC, rfl⟩ := own_slice HO'.out); (rename World => w12); (have hgC : w11.grows w12 := hg'); (have hOC := HO'.out); (have hGC : wr.grownBy w12 none := grownBy_trans (grownBy_of_grows (by repeat (with_reducible first | assumption | exact grA | apply grB | apply grC | apply grD | refine grE ?_ (by omega) _ | refine grF ?_ (by omega) _ _)) _) HG'.out (fun q hq => .inl hq)); (have hO12 := ownsRow_rowV HQ3.out (fun g hg => row_growV hGC (HQ3.out.lt g hg).2 (fun e => by cases e))); (have hsC := hGC.size)) | ((at_builtin; refine wpList_app w11 (w11.heap.size) rfl (.tmp 71) (.tmp 78) _ rfl 30 (.agg #[.string ByteArray.empty, .slice none 0 0]) 2 40 Tryz.underlying22 (by kernel_rfl) rfl (by omega) (by omega) _ i _ rfl ((World.ownsRow.grows hO12 (by repeat (with_reducible first | assumption | exact grA | apply grB | apply grC | apply grD | refine grE ?_ (by omega) _ | refine grF ?_ (by omega) _ _)))) _ 1 _ [.string nm2, .slice aC ts.length cC] rfl rfl (cells_of_row (e := 30) (fr := (0, 0)) (by simp [go_sem])) (by simp [Value.oneCell']) (by omega) (by repeat (with_reducible first | assumption | exact grA | apply grB | apply grC | apply grD | refine grE ?_ (by omega) _ | refine grF ?_ (by omega) _ _)) (by omega) (by first | omega | (simp <;> omega)) ?_; intro v' w' hg' HO' HR' HG' HA'); (obtain ⟨aE, cE, rfl⟩ := own_slice HO'.out)))
              have hGG : w12.grownBy w' (Value.slice a1 i c1).ownBlock := grownBy_trans (grownBy_of_grows (by repeat (with_reducible first | assumption | exact grA | apply grB | apply grC | apply grD | refine grE ?_ (by omega) _ | refine grF ?_ (by omega) _ _)) _) HG'.out (fun q hq => .inl hq)
              have hAE : (Value.slice aE (i + 1) cE).ownBlock = (Value.slice a1 i c1).ownBlock ∨ ∃ b, (Value.slice aE (i + 1) cE).ownBlock = some b ∧ w12.heap.size ≤ b := by
                rcases HA'.out with e | e
                · exact .inl e
                · exact .inr ⟨_, e, (World.grows.below (by repeat (with_reducible first | assumption | exact grA | apply grB | apply grC | apply grD | refine grE ?_ (by omega) _ | refine grF ?_ (by omega) _ _))).size⟩
              have HNEW : Hid (OwnAt w' w11.heap.size 30 2 (CuR w' (fun g => w11.heap.size ≤ g ∧ g < w'.heap.size ∧ (Value.slice aE (i + 1) cE).ownBlock ≠ some g)) (.slice aE (i + 1) cE) (cus.take (i + 1))) := by
                obtain ⟨q1, q2⟩ := HC12.out
                have hsG := hGG.size
                have hO8 : TkO w12 wr.heap.size (.slice aC ts.length cC) ts := ⟨by simpa using hOC, HT2.out⟩
                rw [HCG.out]
                refine Lib.hid (OwnAt.append (R := CuR w12 (fun g => w11.heap.size ≤ g ∧ g < w12.heap.size ∧ (Value.slice a1 i c1).ownBlock ≠ some g)) (css' := [[.string nm2, .slice aC ts.length cC]]) (l' := [⟨nm2, ts⟩]) q1 (fun j x cs h1 h2 => ?_) rfl (fun j x cs h1 h2 => ?_) (fun x cs hx => ?_) ?_)
                · obtain ⟨p1, p2⟩ := q2 j x cs h1 h2
                  exact ⟨p1, p2.keep fun g hg hl => ⟨row_growV hGC hl (fun e => by cases e), hg.1, by omega, hg.2.2⟩⟩
                · cases j with
                  | succ j => simp at h1
                  | zero =>
                    simp at h1 h2
                    subst h1; subst h2
                    refine ⟨rfl, hsz, _, rfl, ?_, HTL2.out⟩
                    exact hO8.slAt fun g h1 h2 => ⟨by omega, h2, fun e => by have := (HQ3.out.lt g e).2; omega⟩
                · refine hx.keep fun g hg hl => ⟨row_growV hGG hl (fun e => hg.2.2 e.symm), hg.1, by omega, fun e => ?_⟩
                  rcases hAE with h1 | ⟨b, h1, h2⟩
                  · exact hg.2.2 (h1.symm.trans e)
                  · rw [h1] at e; injection e with e; omega
                · rw [hlen]
                  have := HO'.out
                  simpa using this
              have hgE := hg'
              clear HO' HG' HA' HR' hg' hGG hAE hOC hGC hO12
              go_wp2_with fail
              go_roundg (ls.length - (i + 1))
              case measure => omega
              case rel =>
                refine ⟨i + 1, aE, cE, Lib.hid ⟨by omega, by omega⟩, by go_num, rfl, hgE.trans (by repeat (with_reducible first | assumption | exact grA | apply grB | apply grC | apply grD | refine grE ?_ (by omega) _ | refine grF ?_ (by omega) _ _)), Lib.hid ?_⟩
                obtain ⟨css2, p1, p2, p3⟩ := HNEW.out
                exact ⟨css2, p1, fun j x cs h1 h2 => ⟨(p2 j x cs h1 h2).1, (p2 j x cs h1 h2).2.keep fun g hg hl => ⟨World.grows.row_eq (by repeat (with_reducible first | assumption | exact grA | apply grB | apply grC | apply grD | refine grE ?_ (by omega) _ | refine grF ?_ (by omega) _ _)) hl, hg.1, Nat.lt_of_lt_of_le hl (World.grows.below (by repeat (with_reducible first | assumption | exact grA | apply grB | apply grC | apply grD | refine grE ?_ (by omega) _ | refine grF ?_ (by omega) _ _))).size, hg.2.2⟩⟩, World.ownsRow.grows p3 (by repeat (with_reducible first | assumption | exact grA | apply grB | apply grC | apply grD | refine grE ?_ (by omega) _ | refine grF ?_ (by omega) _ _))⟩
            · have iI : ¬ (i : Int) < (ls.length : Int) := by omega
              obtain rfl : i = ls.length := by omega
              have hO2 := HO.out
              rw [List.take_of_length_le (by rw [HCU.out.2]; omega)] at hO2
              have HO2 := Lib.hid hO2
              clear hO2 HO
              go_wp2_with fail
              go_ret
              refine ⟨_, cus, rfl, hw11.trans hgj, ⟨k, HSOL.out, HTL.out⟩, by rw [HCU.out.2]; omega, ?_⟩
              have hx := OwnAt.slAt (S := fun g => w11.heap.size ≤ g ∧ g < wr.heap.size) HO2.out (by omega) (fun g hg => by
                obtain ⟨css, p1, p2, p3⟩ := HO2.out
                exact p3.lt g hg)
              exact SlAt.keep hx (fun g hg hl => ⟨rfl, by omega, hg.2⟩) fun _ _ _ hx => hx.keep fun g hg hl => ⟨rfl, by omega, hg.2.1⟩
    · intro x c' kl y1 y2 w6 cnt' hkx hlx hRc hat hrg6 hcl hg6 hs6 hen
      obtain ⟨xl, hxl, rfl, hxs⟩ := Maps.keyOf_str Tryz.underlying9 hkx
      injection hxl with hxl
      subst hxl
      have hfx : fd xl = some c' := by
        have h1 := hat nilV
        rw [HMD4.out.at'] at h1
        have h2 := has_true_of_atKey hat
        rw [HMD4.out.has] at h2
        unfold heldV at hRc
        simp only [Option.some.injEq, Prod.mk.injEq] at hRc
        rw [← hRc.1] at h1
        injection h1 with h1
        obtain ⟨c2, hc2⟩ := Option.isSome_iff_exists.1 h2
        rw [hc2] at h1 ⊢
        rw [← h1]; rfl
      have hg36 : w3.grows w6 := World.grows.grown hgj hg6 (fun k hk => by injection hk with hk; have := HQ.out; omega)
      have r6 : ∀ g, g < wr.heap.size → g ≠ q + 1 + 1 + 1 → w6.row g = wr.row g := fun g h1 h2 => row_growV hg6 h1 (fun e => h2 (by injection e))
      have hqr := HQ.out
      have hsj := hgj.below.size
      have hpml := zpm4.1
      have hbal := i3.own.lt
      have hpm3 : pm < w3.heap.size := by omega
      have hpm6 := (r6 pm (by omega) (by omega)).trans ((i1 pm (by omega) (by omega)).trans hpm4)
      have zpm6 := row_sz' hpm6
      have hra6 := (r6 (q + 1 + 1) (by omega) (by omega)).trans ((i1 (q + 1 + 1) (by omega) (by omega)).trans HR4.out.2.1)
      have zra6 := row_sz' hra6
      have i36 := i3.row (r6 (q + 1) hbal (by omega))
      have hxsz : (⟨xl.toArray⟩ : ByteArray).size ≤ maxLen := by simpa [ByteArray.size] using hxs
      have hlo := (HM1.out.grows (hg13.trans hg36)).look_ok ⟨xl.toArray⟩ hxsz
      have hkx2 := HKM.out ⟨xl.toArray⟩
      have HR6 := Lib.hid r6
      have HI6 := Lib.hid i36
      have HRG := Lib.hid hrg6
      have HEN := Lib.hid hen
      have HFX := Lib.hid hfx
      have hlft : ∀ y : ByteArray, y.data.toList ≠ xl → (left (.string y.data.toList) && !(Lit.string y.data.toList).sameKey (.string xl)) = left (.string y.data.toList) := fun y hy => by
        simp [Lit.sameKey, hy]
      have HLF := Lib.hid hlft
      clear hat hRc hrg6 r6 i36 hfx hlft hg6
      cases hmx : m ⟨xl.toArray⟩ with
      | some ts =>
        rw [hmx] at hkx2
        obtain ⟨uu, hfu, -, -⟩ := hkx2
        simp only at hfu hlo
        rw [hfu] at hlo
        simp only [Option.getD_some, Option.isSome_some] at hlo
        have HMX := Lib.hid hmx
        clear hmx hfu
        go_wp2_with fail
        go_roundg cnt'
        case measure => have := HC.out; omega
        case rel =>
          refine ⟨n, f, D, _, cnt', Lib.hid rfl, hg36, Lib.hid ⟨fun g h1 h2 => (HR6.out g (by omega) (by omega)).trans (i1 g h1 h2), HRG.out, HI6.out, by omega, fun y => ?_⟩⟩
          rw [i5 y]
          by_cases hy : y.data.toList = xl
          · have hyx : y = ⟨xl.toArray⟩ := by rw [← hy, ba_eta]
            rw [if_neg (fun h => by rw [hyx, HMX.out] at h; cases h.1), if_neg (fun h => by rw [hyx, HMX.out] at h; cases h.1)]
          · rw [HLF.out y hy]
      | none =>
        rw [hmx] at hkx2
        simp only at hkx2 hlo
        rw [hkx2] at hlo
        simp only [Option.getD_none, Option.isSome_none] at hlo
        have HMX := Lib.hid hmx
        clear hmx hkx2
        go_wp2_with (at_mapUpdate; go_loud (refine wpList_mapUpdate_own _ rfl (.tmp 42) (.tmp 43) (.tmp 44) 36 rfl 9 27 (string_keyed Tryz.underlying9) Tryz.underlying36 heldV (q + 1) n D rfl (HI6.out.grows (by repeat (with_reducible first | assumption | exact grA | apply grB | apply grC | apply grD | refine grE ?_ (by omega) _ | refine grF ?_ (by omega) _ _))).own (by simp only [maxLen]; omega) (.string ⟨xl.toArray⟩) c' (.string xl) rfl rfl hkx (.held c') [] rfl ?_); intro w7 hown7 hgr7)
        have hGG7 : w6.grownBy w7 (some (q + 1)) := grownBy_trans (grownBy_of_grows (by repeat (with_reducible first | assumption | exact grA | apply grB | apply grC | apply grD | refine grE ?_ (by omega) _ | refine grF ?_ (by omega) _ _)) _) hgr7 (fun q hq => .inl hq)
        have hr7 : ∀ g, g < w6.heap.size → g ≠ q + 1 → w7.row g = w6.row g := fun g h1 h2 => row_growV hGG7 h1 (fun e => h2 (by injection e))
        have hg37 : w3.grows w7 := World.grows.grown hg36 hGG7 (fun k hk => by injection hk with hk; omega)
        have hbd6 : bd < w6.heap.size := by omega
        have HRG7 := Lib.hid (ranges_rowV HRG.out (hr7 bd hbd6 (by omega)) (hr7 (q + 1 + 1 + 1) (by omega) (by omega)))
        have HI7 := Lib.hid (HI6.out.put hown7)
        have HR7 := Lib.hid (show ∀ g, g < w4.heap.size → g ≠ q + 1 → w7.row g = w4.row g from fun g h1 h2 => (hr7 g (by omega) h2).trans ((HR6.out g (by omega) (by omega)).trans (i1 g h1 h2)))
        have hs7 := hGG7.size
        clear hown7 hgr7 hGG7 hr7
        go_roundg cnt'
        case measure => have := HC.out; omega
        case rel =>
          refine ⟨n + 1, _, _, _, cnt', Lib.hid rfl, hg37.trans (by repeat (with_reducible first | assumption | exact grA | apply grB | apply grC | apply grD | refine grE ?_ (by omega) _ | refine grF ?_ (by omega) _ _)), Lib.hid ⟨fun g h1 h2 => (World.grows.row_eq (by repeat (with_reducible first | assumption | exact grA | apply grB | apply grC | apply grD | refine grE ?_ (by omega) _ | refine grF ?_ (by omega) _ _)) (Nat.lt_of_lt_of_le h1 (by have := hg37.below.size; omega))).trans (HR7.out g h1 h2), ranges_rowV HRG7.out (World.grows.row_eq (by repeat (with_reducible first | assumption | exact grA | apply grB | apply grC | apply grD | refine grE ?_ (by omega) _ | refine grF ?_ (by omega) _ _)) (ranges_ltV HRG7.out).1) (World.grows.row_eq (by repeat (with_reducible first | assumption | exact grA | apply grB | apply grC | apply grD | refine grE ?_ (by omega) _ | refine grF ?_ (by omega) _ _)) (ranges_ltV HRG7.out).2), HI7.out.grows (by repeat (with_reducible first | assumption | exact grA | apply grB | apply grC | apply grD | refine grE ?_ (by omega) _ | refine grF ?_ (by omega) _ _)), by omega, fun y => ?_⟩⟩
          by_cases hy : y.data.toList = xl
          · have hyx : y = ⟨xl.toArray⟩ := by rw [← hy, ba_eta]
            rw [if_pos hy, if_pos ⟨by rw [hyx]; exact HMX.out, by rw [hy]; simp [Lit.sameKey]⟩, hy]
            exact HFX.out.symm
          · rw [if_neg hy, HLF.out y hy, i5 y]
end Go.Proofs.YthcaphoejplecaaGreatDoor

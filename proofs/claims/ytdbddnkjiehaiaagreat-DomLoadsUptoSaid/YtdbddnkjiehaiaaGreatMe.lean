/- Texts of the walk, one after the other; what each proves stands ahead of it. -/
import Derived.Laws.EntriesVeiled
import Derived.Test.YtdbddnkjiehaiaaGreatIterD
import Derived.Test.YtdbddnkjiehaiaaGreatMb
import Derived.Test.YtdbddnkjiehaiaaGreatMd
set_option linter.unusedSimpArgs false
set_option linter.unusedVariables false
/- WALKS over dom: Elems. No condition but that a tree stands in memory. -/
namespace Go.Proofs.YtdbddnkjiehaiaaGreat
open Go.Maps Go.RowKit Go.Sort
/-- the map's keys, rising, are the elements' numbers -/
theorem TreeAt.keys {w : World} {L : Ly} {M : Dm} (h : TreeAt w L M) {c : Nat} {D : DataW Value} (hown : w.ownsMap Tryz.prog 3 heldP L.mb c D) (hh : ∀ i, has D (.int .i64 i) = (M.at i).isSome) {ss : List Int} (hp : ss.Perm (intKeys D)) : ss.mergeSort (fun x y => decide (x ≤ y)) = M.els.map El.id := by
  have hup : (M.els.map El.id).Pairwise (· < ·) := by rw [List.pairwise_map]; exact h.wf.up
  have hc : CollectedI D (fun _ => false) (M.els.map El.id) := by
    refine ⟨hup.imp fun hab e => by omega, fun x => ?_⟩
    rw [hh x]
    cases hx : M.at x with
    | none =>
      simp only [Option.isSome_none, Bool.false_eq_true, false_and, iff_false]
      intro hm
      obtain ⟨e, he, hid⟩ := List.mem_map.1 hm
      exact findE_none hx e he hid
    | some e =>
      obtain ⟨h1, h2⟩ := findE_some hx
      simp only [Option.isSome_some, and_self, iff_true]
      exact List.mem_map.2 ⟨e, h1, h2⟩
  have hq := hc.perm hown (int_keyed Tryz.underlying3) Tryz.underlying3 (fun _ => rfl)
  have e1 := mergeSort_of_perm_i (hp.trans hq.symm)
  have e2 : (M.els.map El.id).mergeSort leI = M.els.map El.id := List.mergeSort_of_pairwise (by
    refine hup.imp fun hab => ?_
    simp [leI]; omega)
  exact e1.trans e2
/-- an element handed out: its rows lie in S -/
def ElR (w : World) (S : Nat → Prop) (e : El) (cs : List Value) : Prop := ∃ (ka aa : Option Addr) (kc ac : Nat), cs = [.int .i64 e.id, .int .i64 e.p, .string e.tag, .slice ka e.ks.length kc, .slice aa e.at'.length ac, .int .i64 e.bx.ty, .string e.bx.nm, .int .i64 e.bx.a, .int .i64 e.bx.b, .int .i64 e.bx.c, .int .i64 e.bx.d] ∧
  SlAt w S 1 (fun (x : Int) cs => cs = [Value.int .i64 x]) (.slice ka e.ks.length kc) e.ks ∧ SlAt w S 2 AtR (.slice aa e.at'.length ac) e.at'
theorem ElR.keep {w W : World} {S S' : Nat → Prop} (hw : ∀ g, S g → g < w.heap.size → W.row g = w.row g ∧ S' g) {e : El} {cs : List Value} (h : ElR w S e cs) : ElR W S' e cs := by
  obtain ⟨ka, aa, kc, ac, h1, h2, h3⟩ := h
  exact ⟨ka, aa, kc, ac, h1, h2.keep hw fun _ _ _ h => h, h3.keep hw fun _ _ _ h => h⟩
theorem own_slatB {α : Type} {w : World} {B n : Nat} {e : TypeId} {R : α → List Value → Prop} {v : Value} {l : List α} (hn : 0 < n) (C : α → List Value) (hR : ∀ x ∈ l, R x (C x) ∧ (C x).length = n) (h : w.ownsRow B e n v l.length (l.flatMap C)) : SlAt w (fun g => B ≤ g) n R v l := by
  have ho : OwnAt w B e n R v l := by
    refine ⟨l.map C, by simp, fun i x cs h1 h2 => ?_, by rw [← List.flatMap_def]; exact h⟩
    rw [List.getElem?_map, h1] at h2
    cases h2
    have := hR x (List.mem_of_getElem? h1)
    exact ⟨this.2, this.1⟩
  exact ho.slAt hn fun g hg => (h.lt g hg).1
theorem map_flat (l : List Int) : l.map (Value.int .i64) = l.flatMap fun x => [Value.int .i64 x] := by
  induction l with
  | nil => rfl
  | cons a t ih => rw [List.map_cons, List.flatMap_cons, ih]; rfl
abbrev elO (e : El) (ka aa : Option Addr) (kc ac : Nat) : List Value := [.int .i64 e.id, .int .i64 e.p, .string e.tag, .slice ka e.ks.length kc, .slice aa e.at'.length ac, .int .i64 e.bx.ty, .string e.bx.nm, .int .i64 e.bx.a, .int .i64 e.bx.b, .int .i64 e.bx.c, .int .i64 e.bx.d]
/-- an element handed out: its rows are the call's own, and not o -/
def ElOwn (w : World) (B : Nat) (o : Option Nat) (e : El) (cs : List Value) : Prop := ∃ (ka aa : Option Addr) (kc ac : Nat), cs = elO e ka aa kc ac ∧
  w.ownsRow B 3 1 (.slice ka e.ks.length kc) e.ks.length (e.ks.map (Value.int .i64)) ∧ w.ownsRow B 71 2 (.slice aa e.at'.length ac) e.at'.length (atC e.at') ∧
  (∀ g, (Value.slice ka e.ks.length kc).ownBlock = some g → o ≠ some g) ∧ ∀ g, (Value.slice aa e.at'.length ac).ownBlock = some g → o ≠ some g
theorem ElOwn.elR {w : World} {B : Nat} {o : Option Nat} {e : El} {cs : List Value} (h : ElOwn w B o e cs) : ElR w (fun g => B ≤ g) e cs := by
  obtain ⟨ka, aa, kc, ac, rfl, hk, ha, _, _⟩ := h
  refine ⟨ka, aa, kc, ac, rfl, ?_, ?_⟩
  · rw [map_flat] at hk
    exact own_slatB (n := 1) (R := fun (x : Int) cs => cs = [Value.int .i64 x]) (by omega) (fun x : Int => [Value.int .i64 x]) (fun _ _ => ⟨rfl, rfl⟩) (by simpa using hk)
  · exact own_slatB (n := 2) (R := AtR) (by omega) (fun x : ByteArray × ByteArray => [Value.string x.1, Value.string x.2]) (fun _ _ => ⟨rfl, rfl⟩) ha
theorem ElOwn.keep {w W : World} {B B' : Nat} {o o' : Option Nat} (hB : B' ≤ B) (hw : ∀ g, B ≤ g → o ≠ some g → g < w.heap.size → W.row g = w.row g ∧ o' ≠ some g) {e : El} {cs : List Value} (h : ElOwn w B o e cs) : ElOwn W B' o' e cs := by
  obtain ⟨ka, aa, kc, ac, h1, hk, ha, h2, h3⟩ := h
  exact ⟨ka, aa, kc, ac, h1, World.ownsRow.mono_base hB (ownsRow_row hk fun g hg => (hw g (hk.lt g hg).1 (h2 g hg) (hk.lt g hg).2).1), World.ownsRow.mono_base hB (ownsRow_row ha fun g hg => (hw g (ha.lt g hg).1 (h3 g hg) (ha.lt g hg).2).1),
    fun g hg => (hw g (hk.lt g hg).1 (h2 g hg) (hk.lt g hg).2).2, fun g hg => (hw g (ha.lt g hg).1 (h3 g hg) (ha.lt g hg).2).2⟩
/-- elements handed out so far, in a row of their own -/
def Outs (wj : World) (B : Nat) (v : Value) (l : List El) : Prop := OwnAt wj B 49 11 (ElOwn wj B v.ownBlock) v l
theorem Outs.slAt {w : World} {B : Nat} {v : Value} {l : List El} (h : Outs w B v l) : SlAt w (fun g => B ≤ g) 11 (ElR w (fun g => B ≤ g)) v l :=
  (OwnAt.slAt h (by omega) fun g hg => (by obtain ⟨css, _, _, ho⟩ := h; exact (ho.lt g hg).1)).keep (fun g hS _ => ⟨rfl, hS⟩) fun x _ cs hx => hx.elR
theorem Outs.step {wr wC W2 w' : World} {B : Nat} {v v' : Value} {l : List El} {e : El} {ka aa : Option Addr} {kc ac : Nat} {css : List (List Value)} (h1 : css.length = l.length) (h2 : ∀ (i : Nat) (x : El) (cs : List Value), l[i]? = some x → css[i]? = some cs → cs.length = 11 ∧ ElOwn wr B v.ownBlock x cs)
    (hv : ∀ g, v.ownBlock = some g → g < wr.heap.size) (hB : B ≤ wr.heap.size) (hC : wr.grows wC) (hW : wC.grows W2) (hk : wC.ownsRow wr.heap.size 3 1 (.slice ka e.ks.length kc) e.ks.length (e.ks.map (Value.int .i64))) (ha : wC.ownsRow wr.heap.size 71 2 (.slice aa e.at'.length ac) e.at'.length (atC e.at'))
    (ho : w'.ownsRow B 49 11 v' (l.length + 1) (css.flatten ++ elO e ka aa kc ac)) (hg : W2.grownBy w' v.ownBlock) (hA : v'.ownBlock = v.ownBlock ∨ v'.ownBlock = some W2.heap.size) : Outs w' B v' (l ++ [e]) := by
  have s1 := hC.below.size
  have s2 := hW.below.size
  have keep : ∀ g, v.ownBlock ≠ some g → g < W2.heap.size → w'.row g = W2.row g ∧ v'.ownBlock ≠ some g := fun g q2 q3 => by
    refine ⟨World.row_grow hg q3 (fun hh => q2 hh.symm), fun hh => ?_⟩
    rcases hA with hA | hA
    · rw [hA] at hh; exact q2 hh
    · rw [hA] at hh; injection hh with hh; omega
  refine ⟨css ++ [elO e ka aa kc ac], by simp [h1], fun i x cs q1 q2 => ?_, by simpa using ho⟩
  by_cases hi : i < l.length
  · rw [List.getElem?_append_left hi] at q1
    rw [List.getElem?_append_left (by omega)] at q2
    obtain ⟨r1, r2⟩ := h2 i x cs q1 q2
    refine ⟨r1, r2.keep (Nat.le_refl _) fun g hS hS2 hl => ?_⟩
    obtain ⟨k1, k2⟩ := keep g hS2 (by omega)
    exact ⟨k1.trans ((hW.row_eq (by omega)).trans (hC.row_eq hl)), k2⟩
  · have hil := (List.getElem?_eq_some_iff.1 q1).1
    simp at hil
    obtain rfl : i = l.length := by omega
    rw [List.getElem?_append_right (Nat.le_refl _), Nat.sub_self] at q1
    rw [List.getElem?_append_right (by omega), h1, Nat.sub_self] at q2
    cases q1; cases q2
    have kk : ∀ g, wr.heap.size ≤ g → g < wC.heap.size → w'.row g = wC.row g ∧ v'.ownBlock ≠ some g := fun g hS hl => by
      obtain ⟨k1, k2⟩ := keep g (fun hh => by have := hv g hh; omega) (by omega)
      exact ⟨k1.trans (hW.row_eq hl), k2⟩
    exact ⟨rfl, ka, aa, kc, ac, rfl, World.ownsRow.mono_base hB (ownsRow_row hk fun g hg => (kk g (hk.lt g hg).1 (hk.lt g hg).2).1), World.ownsRow.mono_base hB (ownsRow_row ha fun g hg => (kk g (ha.lt g hg).1 (ha.lt g hg).2).1),
      fun g hg => (kk g (hk.lt g hg).1 (hk.lt g hg).2).2, fun g hg => (kk g (ha.lt g hg).1 (ha.lt g hg).2).2⟩

set_option maxRecDepth 100000 in
set_option maxHeartbeats 8000000 in
theorem domElems_any (w : World) (L : Ly) (M : Dm) (h : TreeAt w L M) : Calls Tryz.prog 29 #[.pointer (some ⟨L.t, 0, none⟩)] w fun r w' => ∃ v, r = .returned v ∧ w.grows w' ∧ Outs w' w.heap.size v M.els := by
  have hx := h.head
  have zx := row_sz' hx
  obtain ⟨c, D, _, hown, _, hh, hsz⟩ := h.map
  have hfew := h.wf.few
  have k1 := callsIn_wide.1 (Tryz.maps_Keys_D (some L.mb) w)
  have k2 : Calls Tryz.prog 48 #[.func (.func 64) #[] #[.pointer (some ⟨w.heap.size, 0, none⟩)]] (w.alloc (.cells #[.map (some L.mb)] 43)) fun e w' => ∃ a c, e = .returned (.slice a M.els.length c) ∧ w.grows w' ∧ w.heap.size + 1 ≤ w'.heap.size ∧ Hid (IntsAt w' (.slice a M.els.length c) (M.els.map El.id)) :=
    (callsIn_wide.1 (Tryz.slices_Sorted_D L.mb c D heldP w hown (by simp only [maxLen]; omega) (by omega))).mono fun e w' ⟨v, ss, q1, q2, q3, q4, q5⟩ => by
      rw [h.keys hown hh q2] at q3
      have hl : ss.length = (M.els.map El.id).length := by rw [← h.keys hown hh q2]; simp
      rw [hl] at q3
      obtain ⟨a, c, e'⟩ := own_slice q3
      rw [List.length_map] at e'
      refine ⟨a, c, by rw [q1, e'], World.grows.of_below ((World.grows.alloc (World.grows.refl (w := w)) _).below.trans (q5.mono (by simp))), by have := q5.size; simpa using this, Lib.hid ?_⟩
      rw [← e']
      exact IntsAt_own q3
  have HT := Lib.hid h
  have K1 := Lib.hid k1; have K2 := Lib.hid k2
  clear k1 k2 h hown hh hsz
  go_enter Tryz.func29, Tryz.ntmps29
  go_wp2_with (first
    | (go_at_call 49; go_loud ((with_reducible refine K1.out.mono ?_); rintro e w1 ⟨rfl, rfl⟩))
    | (go_at_call 48; go_loud ((with_reducible refine K2.out.mono ?_); rintro e w2 ⟨a2, c2, rfl, hg2, hs2, HI2⟩)))
  go_loopg [3, 13] M.els.length (fun gn v3 v13 wj => ∃ i : Nat, Hid (gn + i = M.els.length ∧ i ≤ M.els.length) ∧ v13 = .int .i64 i ∧ w2.grows wj ∧ Hid (Outs wj w2.heap.size v3 (M.els.take i)))
  case atStart => exact ⟨0, Lib.hid ⟨by simp, Nat.zero_le _⟩, by go_num, (by repeat (with_reducible first | assumption | exact grA | apply grB | apply grC | apply grD | refine grE ?_ (by omega) _ | refine grF ?_ (by omega) _ _)), Lib.hid ⟨[], rfl, fun i x cs h => by simp at h, World.ownsRow_nil _ _ _ _⟩⟩
  case round =>
    obtain ⟨i, HK, rfl, hgj, HV⟩ := hrel
    obtain ⟨j1, j2⟩ := HK.out
    have hwr := hg2.trans hgj
    have hsr := hgj.below.size
    by_cases hlt : i < M.els.length
    · have i1 : (i : Int) < (M.els.length : Int) := by omega
      have hgt := List.getElem?_eq_getElem hlt
      have he := List.getElem_mem hlt
      have hkey : (M.els.map El.id)[i]? = some M.els[i].id := by rw [List.getElem?_map, hgt]; rfl
      obtain ⟨_, _, e4, _, _, b5⟩ := HI2.out
      injection e4 with e4 e5 e6
      clear e5
      subst e4; subst e6
      rcases b5 with h0 | ⟨g, off, rfl, _, h4⟩
      · rw [List.map_eq_nil_iff] at h0; rw [h0] at hlt; simp at hlt
      obtain ⟨cs, _, el, rfl⟩ := h4 i _ hkey
      have c0 := (el.grows hgj).cell (j := 0) rfl
      rw [World.cell?_row, Nat.add_zero, Nat.mul_one] at c0
      have zg := lt_sz (el.grows hgj).lt
      generalize M.els[i] = e at *
      have hTr := HT.out.grows hwr
      have hhd := hTr.head
      have zhd := row_sz' hhd
      have hat : M.at e.id = some e := findE_of HT.out.wf.up he
      have hlk := hTr.look e.id (HT.out.elWf e he).1
      unfold mvOf at hlk
      rw [hat] at hlk
      simp only at hlk
      obtain ⟨hrow, hks, hats⟩ := hTr.els e he
      have zr := row_sz' hrow
      obtain ⟨ka, kc, ek⟩ := own_slice hks
      obtain ⟨aa, ac, ea⟩ := own_slice hats
      unfold elC at hrow
      rw [ek] at hks hrow
      rw [ea] at hats hrow
      have hew := (HT.out.elWf e he)
      have hcp := domCopied_any wr e ka aa kc ac (IntsAt_own hks) (at_slat hats) (by have := hew.2.2.2.2.2.2.2; omega) (by have := hew.2.2.2.2.2.2.1; omega)
      have HCP := Lib.hid hcp
      have HTK := Lib.hid (show M.els.take (i + 1) = M.els.take i ++ [e] by rw [List.take_add_one, hgt]; rfl)
      clear hcp hks hats h4 el hkey hgt hTr hat hew ek ea
      obtain ⟨css, hc1, hc2, hvo⟩ := HV.out
      have hln : (M.els.take i).length = i := by rw [List.length_take]; omega
      rw [hln] at hvo
      obtain ⟨a3, k3, rfl⟩ := own_slice hvo
      have HB := Lib.hid hc1
      have HC2 := Lib.hid hc2
      have hvlt := hvo.lt
      clear hc1 hc2 HV
      go_wp2_with (first
        | (go_at_call 11; go_loud ((with_reducible refine HCP.out.mono ?_); rintro r wC ⟨ka', aa', kc', ac', rfl, hgC, hkC, haC⟩); (have hwC := hwr.trans hgC); (have sC := hgC.below.size))
        | (at_builtin; refine wpList_app w (w2.heap.size) rfl (.tmp 17) (.tmp 27) _ rfl 49 (.agg #[.int .i64 0, .int .i64 0, .string ByteArray.empty, .slice none 0 0, .slice none 0 0, .int .i64 0, .string ByteArray.empty, .int .i64 0, .int .i64 0, .int .i64 0, .int .i64 0]) 11 136 Tryz.underlying22 (by kernel_rfl) rfl (by omega) (by omega) _ i _ rfl (hvo.grows (by repeat (with_reducible first | assumption | exact grA | apply grB | apply grC | apply grD | refine grE ?_ (by omega) _ | refine grF ?_ (by omega) _ _))) _ 1 _ [.int .i64 e.id, .int .i64 e.p, .string e.tag, .slice ka' e.ks.length kc', .slice aa' e.at'.length ac', .int .i64 e.bx.ty, .string e.bx.nm, .int .i64 e.bx.a, .int .i64 e.bx.b, .int .i64 e.bx.c, .int .i64 e.bx.d] rfl rfl (cells_of_row (e := 49) (fr := (0, 0)) (by simp [go_sem])) (by simp [Value.oneCell']) (by omega) (by repeat (with_reducible first | assumption | exact grA | apply grB | apply grC | apply grD | refine grE ?_ (by omega) _ | refine grF ?_ (by omega) _ _)) (by omega) (by simp <;> omega) ?_; intro v' w' hg' HO' HR' HG' HA'))
      have hG := HG'.out
      have hA := HA'.out
      have ho := HO'.out
      have zA := World.grows.below (World.grows.alloc (World.grows.refl (w := wC)) (.cells #[.int .i64 e.id, .int .i64 e.p, .string e.tag, .slice ka' e.ks.length kc', .slice aa' e.at'.length ac', .int .i64 e.bx.ty, .string e.bx.nm, .int .i64 e.bx.a, .int .i64 e.bx.b, .int .i64 e.bx.c, .int .i64 e.bx.d] 49))
      have hgW : w2.grows w' := World.grows.of_below (((hgj.trans hgC).trans (World.grows.alloc (World.grows.refl (w := wC)) _)).below.grown hG (by simp; omega) (fun k e' => (hvlt k e').1))
      have hst := Outs.step (v := .slice a3 i k3) HB.out HC2.out (fun g hg => (hvlt g hg).2) (by omega) hgC (World.grows.alloc (World.grows.refl (w := wC)) _) hkC haC (by rw [hln]; exact ho) hG hA
      rw [← HTK.out] at hst
      clear hG hA ho HB HC2 HO' HR' HG' HA' hvlt hkC haC
      go_roundg (M.els.length - (i + 1))
      case measure => omega
      case rel => exact ⟨i + 1, Lib.hid ⟨by omega, by omega⟩, by go_num, hgW, Lib.hid hst⟩
    · have i1 : ¬ (i : Int) < (M.els.length : Int) := by omega
      obtain rfl : i = M.els.length := by omega
      rw [List.take_length] at HV
      go_wp2_with fail
      go_ret
      refine ⟨_, rfl, hwr, ?_⟩
      obtain ⟨css, c1, c2, c3⟩ := HV.out
      exact ⟨css, c1, fun i x cs q1 q2 => ⟨(c2 i x cs q1 q2).1, (c2 i x cs q1 q2).2.keep (by omega) fun g _ h _ => ⟨rfl, h⟩⟩, World.ownsRow.mono_base (by omega) c3⟩
end Go.Proofs.YtdbddnkjiehaiaaGreat

/- WALK over dom: Elem. No condition but that a tree stands in memory. -/
namespace Go.Proofs.YtdbddnkjiehaiaaGreat
open Go.Maps Go.RowKit Go.Sort
theorem elR_own {wC W : World} {B : Nat} {S : Nat → Prop} {e : El} {ka aa : Option Addr} {kc ac : Nat} (hk : wC.ownsRow B 3 1 (.slice ka e.ks.length kc) e.ks.length (e.ks.map (Value.int .i64))) (ha : wC.ownsRow B 71 2 (.slice aa e.at'.length ac) e.at'.length (atC e.at'))
    (kk : ∀ g, B ≤ g → g < wC.heap.size → W.row g = wC.row g ∧ S g) : ElR W S e (elO e ka aa kc ac) := by
  refine ⟨ka, aa, kc, ac, rfl, ?_, ?_⟩
  · rw [map_flat] at hk
    exact (own_slatB (n := 1) (R := fun (x : Int) cs => cs = [Value.int .i64 x]) (by omega) (fun x : Int => [Value.int .i64 x]) (fun _ _ => ⟨rfl, rfl⟩) (by simpa using hk)).keep kk fun _ _ _ h => h
  · exact (own_slatB (n := 2) (R := AtR) (by omega) (fun x : ByteArray × ByteArray => [Value.string x.1, Value.string x.2]) (fun _ _ => ⟨rfl, rfl⟩) ha).keep kk fun _ _ _ h => h
/-- an element that is none -/
abbrev noE : Value := .agg #[.int .i64 0, .int .i64 0, .string ByteArray.empty, .slice none 0 0, .slice none 0 0, .int .i64 0, .string ByteArray.empty, .int .i64 0, .int .i64 0, .int .i64 0, .int .i64 0]

end Go.Proofs.YtdbddnkjiehaiaaGreat

/- WALK over dom: the closure of Below. No condition but that a tree stands in memory. -/
namespace Go.Proofs.YtdbddnkjiehaiaaGreat
open Go.Maps Go.RowKit Go.Sort
/-- Below's boxed variables: the tree, the list so far, the closure -/
structure BSt (w0 w : World) (L : Ly) (v : Value) (l : List Int) : Prop where
  gr : w0.grows w
  tr : w.row w0.heap.size = some (.cells #[.pointer (some ⟨L.t, 0, none⟩)] 24)
  out : w.row (w0.heap.size + 1) = some (.cells #[v] 46)
  fn : w.row (w0.heap.size + 2) = some (.cells #[.func (.func 61) #[] #[.pointer (some ⟨w0.heap.size + 1, 0, none⟩), .pointer (some ⟨w0.heap.size, 0, none⟩), .pointer (some ⟨w0.heap.size + 2, 0, none⟩)]] 90)
  own : w.ownsRow (w0.heap.size + 3) 3 1 v l.length (l.map (Value.int .i64))

set_option maxRecDepth 100000 in
set_option maxHeartbeats 8000000 in
theorem below1_any {w : World} {L : Ly} {M : Dm} (h : TreeAt w L M) (dep : Int → Nat) (n : Nat)
    (ih : ∀ f ∈ M.els, 33 ≤ n + dep f.id → ∀ (wc : World) (v : Value) (l : List Int), BSt w wc L v l → l.length + (M.below n f.id).length ≤ M.els.length →
      Calls Tryz.prog 61 #[.int .i64 f.id, .pointer (some ⟨w.heap.size + 1, 0, none⟩), .pointer (some ⟨w.heap.size, 0, none⟩), .pointer (some ⟨w.heap.size + 2, 0, none⟩)] wc fun r w' => r = .returned (.tuple #[]) ∧ ∃ v', BSt w w' L v' (l ++ M.below n f.id))
    (e : El) (he : e ∈ M.els) (hd : 33 ≤ n + 1 + dep e.id) (hk : ∀ k ∈ e.ks, ∃ f ∈ M.els, f.id = k ∧ f.p = e.id ∧ dep k = dep e.id + 1) (wc : World) (v : Value) (l : List Int) (hb : BSt w wc L v l) (hl : l.length + (M.below (n + 1) e.id).length ≤ M.els.length) :
    Calls Tryz.prog 61 #[.int .i64 e.id, .pointer (some ⟨w.heap.size + 1, 0, none⟩), .pointer (some ⟨w.heap.size, 0, none⟩), .pointer (some ⟨w.heap.size + 2, 0, none⟩)] wc fun r w' => r = .returned (.tuple #[]) ∧ ∃ v', BSt w w' L v' (l ++ M.below (n + 1) e.id) := by
  have hT := h.grows hb.gr
  have hx := hT.head
  have zx := row_sz' hx
  have ht := hb.tr
  have ho := hb.out
  have hf := hb.fn
  have zt := row_sz' ht
  have zo := row_sz' ho
  have zf := row_sz' hf
  have hew := (h.elWf e he).1
  have hlk := hT.look e.id hew
  have hat : M.at e.id = some e := findE_of h.wf.up he
  unfold mvOf at hlk
  rw [hat] at hlk
  simp only at hlk
  have hlt := h.lt (.inl rfl)
  obtain ⟨c, D, _, hown, _, _, hsz⟩ := hT.map
  have hmb := hown.lt
  have hfew := h.wf.few
  rw [Dm.below_at h.wf he, List.length_cons] at hl
  obtain ⟨av, cv, rfl⟩ := own_slice hb.own
  have hTd := h.grows (show w.grows wc.drew by apply World.grows.drew; exact hb.gr)
  have hlen : (Builtin.len_ #[43] 3 #[.map (some L.mb)]).run Tryz.prog wc.drew = .ok (.int .i64 M.els.length) wc.drew := by
    obtain ⟨c', D', _, hown', _, _, hsz'⟩ := hTd.map
    have := hown'.len Tryz.underlying43 3
    rw [hsz'] at this; exact this
  have hgt : ¬ ((M.els.length : Int) < (l.length : Int)) := by omega
  clear hTd
  have hgr := hb.gr
  have hsc := hgr.below.size
  have HM := Lib.hid hown; have HS := Lib.hid hsz
  have HB := Lib.hid hb; have HT := Lib.hid hT; have H0 := Lib.hid h; have HI := Lib.hid ih; have HK := Lib.hid hk
  clear hb hT h hown hsz ih hk
  go_enter Tryz.func61, Tryz.ntmps61
  go_wp2_with fail
  go_region
  go_upto_region 2 with (first
    | ((at_builtin; refine wpList_app w (w.heap.size + 3) rfl (.tmp 15) (.tmp 17) _ rfl 3 (.int .i64 0) 1 8 Tryz.underlying46 (by kernel_rfl) rfl (by omega) (by omega) _ l.length _ rfl (HB.out.own.grows (by repeat (with_reducible first | assumption | exact grA | apply grB | apply grC | apply grD | refine grE ?_ (by omega) _ | refine grF ?_ (by omega) _ _))) _ 1 _ [.int .i64 e.id] rfl rfl (cells_of_row (e := 3) (fr := (0, 0)) (by simp [go_sem])) (by simp [Value.oneCell']) (by omega) (by repeat (with_reducible first | assumption | exact grA | apply grB | apply grC | apply grD | refine grE ?_ (by omega) _ | refine grF ?_ (by omega) _ _)) (by omega) (by simp <;> omega) ?_; intro v' w' hg' HO' HR' HG' HA'); obtain ⟨a2, c2, rfl⟩ := own_slice HO'.out; have r0 : w'.row w.heap.size = some (.cells #[.pointer (some ⟨L.t, 0, none⟩)] 24) := (HR'.out _ (by omega)).trans (by simp [go_sem, ht, zt]); have r1 : w'.row (w.heap.size + 1) = some (.cells #[.slice av l.length cv] 46) := (HR'.out _ (by omega)).trans (by simp [go_sem, ho, zo]); have r2 := (HR'.out (w.heap.size + 2) (by omega)).trans (show _ = _ by simp [go_sem, hf, zf]; rfl); have y0 := row_sz' r0; have y1 := row_sz' r1))
  have hB1 : BSt w (w'.setCell ⟨w.heap.size + 1, 0, none⟩ (.slice a2 (l.length + 1) c2)) L (.slice a2 (l.length + 1) c2) (l ++ [e.id]) := by
    refine ⟨(by repeat (with_reducible first | assumption | exact grA | apply grB | apply grC | apply grD | refine grE ?_ (by omega) _ | refine grF ?_ (by omega) _ _)), ?_, ?_, ?_, ?_⟩
    · rw [World.row_setCell, if_neg (by omega)]; exact r0
    · simp [go_sem, r1, y1]
    · rw [World.row_setCell, if_neg (by omega)]; exact r2
    · have := HO'.out
      rw [List.length_append, List.map_append]
      refine ownsRow_row this fun g hg => ?_
      have := (HO'.out.lt g hg).1
      rw [World.row_setCell, if_neg (by omega)]
  generalize w'.setCell ⟨w.heap.size + 1, 0, none⟩ (.slice a2 (l.length + 1) c2) = W1 at hB1 ⊢
  clear HO' HR' HG' HA' hg' r0 r1 r2 y0 y1 hlk hx zx ht ho hf zt zo zf
  have hgW := hB1.gr
  have hT1 := H0.out.grows hgW
  have hx1 := hT1.head
  have zx1 := row_sz' hx1
  have ht1 := hB1.tr
  have zt1 := row_sz' ht1
  have hlk1 := hT1.look e.id hew
  unfold mvOf at hlk1
  rw [hat] at hlk1
  simp only at hlk1
  have hrow := (hT1.els e he).1
  have zr := row_sz' hrow
  obtain ⟨ka, kc, ek⟩ := own_slice (hT1.els e he).2.1
  unfold elC at hrow
  rw [ek] at hrow
  have HB1 := Lib.hid hB1
  clear hT1 hB1
  go_wp2_with fail
  go_loopg [29] e.ks.length (fun gn v29 wj => ∃ i : Nat, Hid (gn + i = e.ks.length ∧ i ≤ e.ks.length) ∧ v29 = .int .i64 i ∧ w.grows wj ∧ Hid (∃ v, BSt w wj L v (l ++ (e.id :: (e.ks.take i).flatMap (M.below n)))))
  case atStart => exact ⟨0, Lib.hid ⟨by simp, Nat.zero_le _⟩, by go_num, (by repeat (with_reducible first | assumption | exact grA | apply grB | apply grC | apply grD | refine grE ?_ (by omega) _ | refine grF ?_ (by omega) _ _)), Lib.hid ⟨_, by simpa using HB1.out⟩⟩
  case round =>
    obtain ⟨i, HQ, rfl, hgj, HV⟩ := hrel
    obtain ⟨j1, j2⟩ := HQ.out
    obtain ⟨vj, hBj⟩ := HV.out
    by_cases hlt : i < e.ks.length
    · have i1 : (i : Int) < (e.ks.length : Int) := by omega
      have hgt := List.getElem?_eq_getElem hlt
      have hkm := List.getElem_mem hlt
      obtain ⟨f, hf, hfk, hfp, hdk⟩ := HK.out _ hkm
      have hgt' : e.ks[i]? = some f.id := by rw [hgt, hfk]
      have HTK := Lib.hid (show (e.ks.take (i + 1)).flatMap (M.below n) = (e.ks.take i).flatMap (M.below n) ++ M.below n f.id by rw [List.take_add_one, hgt', List.flatMap_append]; simp)
      have hlen2 : ((e.ks.take i).flatMap (M.below n)).length + (M.below n f.id).length ≤ (e.ks.flatMap (M.below n)).length := by
        have h1 : e.ks.flatMap (M.below n) = (e.ks.take (i + 1)).flatMap (M.below n) ++ (e.ks.drop (i + 1)).flatMap (M.below n) := by rw [← List.flatMap_append, List.take_append_drop]
        rw [h1, HTK.out]; simp only [List.length_append]; omega
      have hTr := H0.out.grows hgj
      have hIr := IntsAt_own (hTr.els e he).2.1
      rw [ek] at hIr
      obtain ⟨_, _, e4, _, _, b5⟩ := hIr
      injection e4 with e4 e5 e6
      clear e5
      subst e4; subst e6
      rcases b5 with h0 | ⟨g, off, rfl, _, h4⟩
      · rw [h0] at hlt; simp at hlt
      obtain ⟨cs, _, el, rfl⟩ := h4 i _ hgt'
      have c0 := el.cell (j := 0) rfl
      rw [World.cell?_row, Nat.add_zero, Nat.mul_one] at c0
      have zg := lt_sz el.lt
      have hfr := hBj.fn
      have zfr := row_sz' hfr
      have HC := Lib.hid (HI.out f hf (by rw [hfk] ; rw [← hfk] at hdk ⊢; omega) wr vj _ hBj (by simp only [List.length_append, List.length_cons]; omega))
      clear hTr hBj HV h4 el hgt hgt' hkm hfk hdk hlen2
      go_wp2_with (go_at_call 61; go_loud ((with_reducible refine HC.out.mono ?_); rintro r w2 ⟨rfl, v2, hB2⟩); (have hg2 := hB2.gr))
      have HB2 := Lib.hid (show BSt w w2 L v2 (l ++ e.id :: (e.ks.take (i + 1)).flatMap (M.below n)) by rw [HTK.out]; simpa using hB2)
      clear hB2 hfr zfr HC HTK c0 zg
      go_roundg (e.ks.length - (i + 1))
      case measure => omega
      case rel => exact ⟨i + 1, Lib.hid ⟨by omega, by omega⟩, by go_num, hg2, Lib.hid ⟨_, HB2.out⟩⟩
    · have i1 : ¬ (i : Int) < (e.ks.length : Int) := by omega
      obtain rfl : i = e.ks.length := by omega
      rw [List.take_length, ← Dm.below_at H0.out.wf he] at hBj
      have HBj := Lib.hid hBj
      clear hBj HV
      go_wp2_with fail
      go_end0
      exact ⟨rfl, _, HBj.out⟩
/-- the closure of Below: what is below an element joins the list -/
theorem belowC_any {w : World} {L : Ly} {M : Dm} (h : TreeAt w L M) {dep : Int → Nat} (h2 : ∀ e ∈ M.els, e.id ≠ M.root → dep e.id = dep e.p + 1) (h3 : ∀ e ∈ M.els, dep e.id ≤ 32) : ∀ (n : Nat) (e : El), e ∈ M.els → 33 ≤ n + dep e.id → ∀ (wc : World) (v : Value) (l : List Int), BSt w wc L v l → l.length + (M.below n e.id).length ≤ M.els.length →
      Calls Tryz.prog 61 #[.int .i64 e.id, .pointer (some ⟨w.heap.size + 1, 0, none⟩), .pointer (some ⟨w.heap.size, 0, none⟩), .pointer (some ⟨w.heap.size + 2, 0, none⟩)] wc fun r w' => r = .returned (.tuple #[]) ∧ ∃ v', BSt w w' L v' (l ++ M.below n e.id)
  | 0, e, he, hd => by have := h3 e he; omega
  | n + 1, e, he, hd => fun wc v l hb hl => below1_any h dep n (belowC_any h h2 h3 n) e he hd (fun k hk => Dm.kid_dep h.wf h2 he hk) wc v l hb hl
end Go.Proofs.YtdbddnkjiehaiaaGreat

/- WALKS over dom: Below, Order. No condition but that a tree stands in memory. -/
namespace Go.Proofs.YtdbddnkjiehaiaaGreat
open Go.Maps Go.RowKit Go.Sort
theorem Dm.dep_pos {M : Dm} {dep : Int → Nat} (h1 : dep M.root = 1) (h2 : ∀ e ∈ M.els, e.id ≠ M.root → dep e.id = dep e.p + 1) {e : El} (he : e ∈ M.els) : 1 ≤ dep e.id := by
  by_cases hr : e.id = M.root
  · rw [hr, h1]; exact Nat.le_refl _
  · rw [h2 e he hr]; omega

set_option maxRecDepth 100000 in
set_option maxHeartbeats 8000000 in
theorem domBelow_any (w : World) (L : Ly) (M : Dm) (h : TreeAt w L M) (i : Int) (hi : I64 i) : Calls Tryz.prog 46 #[.pointer (some ⟨L.t, 0, none⟩), .int .i64 i] w fun r w' => ∃ v, r = .returned v ∧ w.grows w' ∧ w'.ownsRow w.heap.size 3 1 v (M.below 32 i).length ((M.below 32 i).map (Value.int .i64)) := by
  have hT := h.grows (World.grows.alloc (World.grows.refl (w := w)) (.cells #[.pointer (some ⟨L.t, 0, none⟩)] 24))
  have hx := h.head
  have zx := row_sz' hx
  have hlk := hT.look i hi
  unfold mvOf at hlk
  cases hat : M.at i with
  | none =>
    rw [hat] at hlk
    simp only at hlk
    have HN := Lib.hid (show M.below 32 i = [] by unfold Dm.below; rw [hat])
    clear h hT hat
    go_enter Tryz.func46, Tryz.ntmps46
    go_wp2_with fail
    go_ret
    exact ⟨_, rfl, (by repeat (with_reducible first | assumption | exact grA | apply grB | apply grC | apply grD | refine grE ?_ (by omega) _ | refine grF ?_ (by omega) _ _)), by rw [HN.out]; exact World.ownsRow_nil _ _ _ _⟩
  | some e =>
    rw [hat] at hlk
    simp only at hlk
    obtain ⟨he, rfl⟩ := findE_some hat
    obtain ⟨dep, d1, d2, d3⟩ := h.wf.dep
    have hp := Dm.dep_pos d1 d2 he
    have hfew := Dm.below_few h.wf 32 he (List.prefix_refl _)
    have HC := Lib.hid (belowC_any h d2 d3 32 e he (by omega))
    clear h hT hat d1 d2 d3 hp
    go_enter Tryz.func46, Tryz.ntmps46
    go_wp2_with (go_at_call 61; go_loud ((with_reducible refine (HC.out _ (.slice none 0 0) [] ⟨(by repeat (with_reducible first | assumption | exact grA | apply grB | apply grC | apply grD | refine grE ?_ (by omega) _ | refine grF ?_ (by omega) _ _)), (by simp [go_sem]), (by simp [go_sem]), (by simp [go_sem]), World.ownsRow_nil _ _ _ _⟩ (by simpa using hfew)).mono ?_); rintro r w2 ⟨rfl, v2, hB2⟩); (have hg2 := hB2.gr); (have hv2 := hB2.out); (have zv2 := row_sz' hv2))
    have h5 : w2.ownsRow (w.heap.size + 3) 3 1 v2 (M.below 32 e.id).length ((M.below 32 e.id).map (Value.int .i64)) := by simpa using hB2.own
    go_ret
    exact ⟨_, rfl, hg2, World.ownsRow.mono_base (B := w.heap.size) (by omega) h5⟩

set_option maxRecDepth 100000 in
set_option maxHeartbeats 8000000 in
theorem domOrder_any (w : World) (L : Ly) (M : Dm) (h : TreeAt w L M) : Calls Tryz.prog 23 #[.pointer (some ⟨L.t, 0, none⟩)] w fun r w' => ∃ v, r = .returned v ∧ w.grows w' ∧ w'.ownsRow w.heap.size 3 1 v (M.below 32 M.root).length ((M.below 32 M.root).map (Value.int .i64)) := by
  have hx := h.head
  have zx := row_sz' hx
  have hr : I64 M.root := by
    obtain ⟨e, he, h1, _⟩ := h.wf.rootE
    rw [← h1]; exact (h.elWf e he).1
  have HC := Lib.hid (domBelow_any w L M h M.root hr)
  clear h
  go_enter Tryz.func23, Tryz.ntmps23
  go_wp2_with (go_at_call 46; go_loud ((with_reducible refine HC.out.mono ?_); rintro r w2 ⟨v2, rfl, hg2, hv2⟩))
  go_ret
  exact ⟨_, rfl, hg2, hv2⟩
end Go.Proofs.YtdbddnkjiehaiaaGreat

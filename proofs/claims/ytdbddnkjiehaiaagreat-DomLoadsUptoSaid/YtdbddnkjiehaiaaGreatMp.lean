/- Texts of the walk, one after the other; what each proves stands ahead of it. -/
import Derived.Test.YtdbddnkjiehaiaaGreatMn
import Derived.Test.YtdbddnkjiehaiaaGreatMo
set_option linter.unusedSimpArgs false
set_option linter.unusedVariables false
/- MEMORY and WALK over dom: elements that lie as a tree's do, whatever they are; Below of them. -/
namespace Go.Proofs.YtdbddnkjiehaiaaGreat
open Go.Maps Go.RowKit Go.Sort
structure RawAt (w : World) (L : Ly) (M : Dm) : Prop where
  head : w.row L.t = some (.cells #[.map (some L.mb), .int .i64 M.root, .int .i64 M.next] 45)
  map : ∃ (c : Nat) (D : DataW Value), c ≤ M.els.length ∧ w.ownsMap Tryz.prog 3 heldP L.mb c D ∧ MapP D (mvOf L M) ∧ (∀ i, has D (.int .i64 i) = (M.at i).isSome) ∧ Maps.size D = M.els.length
  els : ∀ e ∈ M.els, ElAt w L e
  ok : L.Ok M.els
  elWf : ∀ e ∈ M.els, e.Wf0
  up : M.els.Pairwise fun a b => a.id < b.id
  low : ∀ e ∈ M.els, 0 ≤ e.id
  few : M.els.length ≤ 256
theorem RawAt.lt {w : World} {L : Ly} {M : Dm} (h : RawAt w L M) {k : Nat} (hk : L.own M.els k) : k < w.heap.size := by
  rcases hk with rfl | rfl | ⟨e, he, h1⟩
  · exact (row_sz' h.head).1
  · obtain ⟨_, _, _, h2, _⟩ := h.map; exact h2.lt
  · obtain ⟨q1, q2, q3⟩ := h.els e he
    rcases h1 with rfl | h1 | h1
    · exact (row_sz' q1).1
    · exact (q2.lt k h1).2
    · exact (q3.lt k h1).2
theorem RawAt.keep {w W : World} {L : Ly} {M : Dm} (h : RawAt w L M) (hr : ∀ k, L.own M.els k → k < w.heap.size → W.row k = w.row k) : RawAt W L M where
  head := (hr _ (.inl rfl) (h.lt (.inl rfl))).trans h.head
  map := by
    obtain ⟨c, D, h1, h2, h3⟩ := h.map
    exact ⟨c, D, h1, ownsMap_row h2 (hr _ (.inr (.inl rfl)) (h.lt (.inr (.inl rfl)))), h3⟩
  els := fun e he => by
    obtain ⟨q1, q2, q3⟩ := h.els e he
    have ho : ∀ k, (k = L.bl e.id ∨ (L.kv e.id).ownBlock = some k ∨ (L.av e.id).ownBlock = some k) → W.row k = w.row k := fun k hk => hr k (.inr (.inr ⟨e, he, hk⟩)) (h.lt (.inr (.inr ⟨e, he, hk⟩)))
    exact ⟨(ho _ (.inl rfl)).trans q1, ownsRow_row q2 fun g hg => ho g (.inr (.inl hg)), ownsRow_row q3 fun g hg => ho g (.inr (.inr hg))⟩
  ok := h.ok
  elWf := h.elWf
  up := h.up
  low := h.low
  few := h.few
theorem RawAt.grows {w W : World} {L : Ly} {M : Dm} (h : RawAt w L M) (hg : w.grows W) : RawAt W L M := h.keep fun _ _ hl => hg.row_eq hl
theorem RawAt.look {w : World} {L : Ly} {M : Dm} (h : RawAt w L M) (i : Int) (hi : I64 i) : (Instr.lookup 43 (.map (some L.mb)) (.int .i64 i) false).run Tryz.prog w = .ok (mvOf L M i) w := by
  obtain ⟨c, D, _, h1, h2, _⟩ := h.map
  obtain ⟨v, ps, hrun, hv⟩ := h1.lookup (int_keyed Tryz.underlying3) Tryz.underlying43 (zero_elem w) (zd := nilP) (zp := []) rfl (keyOf_int_mk Tryz.underlying3 (lit_wf hi))
  rw [h2.2] at hv
  unfold heldP at hv
  simp only [Option.some.injEq, Prod.mk.injEq, DataW.held.injEq] at hv
  rw [hrun, hv.1]
theorem RawAt.hd {w W : World} {L : Ly} {M M' : Dm} (h : RawAt w L M) (he : M'.els = M.els) (hr : ∀ k, k ≠ L.t → W.row k = w.row k) (hh : W.row L.t = some (.cells #[.map (some L.mb), .int .i64 M'.root, .int .i64 M'.next] 45)) : RawAt W L M' := by
  have nt : ∀ k n (y : El), y ∈ M.els → L.tg k = (y.id, n) → k ≠ L.t := fun k n y hy hk hh => by
    rw [hh, h.ok.1] at hk; injection hk with hk _; have := h.low y hy; omega
  have hmt : L.mb ≠ L.t := fun hh => by
    have q1 := h.ok.1; have q2 := h.ok.2.1
    rw [hh, q1] at q2; cases q2
  refine ⟨hh, ?_, ?_, he ▸ h.ok, he ▸ h.elWf, he ▸ h.up, he ▸ h.low, he ▸ h.few⟩
  · obtain ⟨c, D, h1, h2, h3, h4, h5⟩ := h.map
    refine ⟨c, D, he ▸ h1, ownsMap_row h2 (hr _ hmt), ⟨h3.1, fun i => ?_⟩, fun i => ?_, he ▸ h5⟩
    · rw [h3.2 i]; unfold mvOf Dm.at; rw [he]
    · rw [h4 i]; unfold Dm.at; rw [he]
  · rw [he]
    intro y hy
    obtain ⟨q1, q2, q3⟩ := h.els y hy
    obtain ⟨t1, t2, t3⟩ := h.ok.2.2 y hy
    exact ⟨(hr _ (nt _ _ y hy t1)).trans q1, ownsRow_row q2 fun g hg => hr g (nt _ _ y hy (t2 g hg)), ownsRow_row q3 fun g hg => hr g (nt _ _ y hy (t3 g hg))⟩
theorem RawAt.tree {w : World} {L : Ly} {M : Dm} (h : RawAt w L M) (hw : M.Wf) (he : ∀ e ∈ M.els, e.Wf) : TreeAt w L M := by
  obtain ⟨c, D, h1, h2⟩ := h.map
  exact ⟨h.head, ⟨c, D, by have := els_next hw; omega, h2⟩, h.els, h.ok, hw, he⟩
theorem CpSt.raw {w wj : World} {M : Dm} {ot ob r : Nat} {L : Ly} {D : DataW Value} (h : CpSt w wj M ot ob r L (M.els.map El.id) D) (hu : M.els.Pairwise fun a b => a.id < b.id) (hl : ∀ e ∈ M.els, 0 ≤ e.id) (hf : M.els.length ≤ 256) (hew : ∀ e ∈ M.els, e.Wf0) : RawAt wj L M ∧ ∀ k, L.own M.els k → w.heap.size ≤ k := by
  have hmem : ∀ i, i ∈ M.els.map El.id ↔ (M.at i).isSome = true := fun i => by
    constructor
    · intro hi
      obtain ⟨e, he, rfl⟩ := h.sub i hi
      unfold Dm.at; rw [findE_of hu he]; rfl
    · intro hi
      cases hx : M.at i with
      | none => rw [hx] at hi; cases hi
      | some e => obtain ⟨he, rfl⟩ := findE_some hx; exact List.mem_map.2 ⟨e, he, rfl⟩
  have hlen : (M.els.map El.id).length = M.els.length := by simp
  have hin : ∀ e ∈ M.els, e.id ∈ M.els.map El.id := fun e he => List.mem_map.2 ⟨e, he, rfl⟩
  refine ⟨⟨by rw [h.t, h.mb]; exact h.head, ⟨_, D, Nat.le_of_eq hlen, by rw [h.mb]; exact h.map, ⟨(h.map.tidy (int_keyed Tryz.underlying3)).isMap, fun i => ?_⟩, fun i => ?_, h.sz.trans hlen⟩, fun e he => h.els e he (hin e he), ⟨by rw [h.t]; exact h.tt, by rw [h.mb]; exact h.tm, fun e he => h.tg e he (hin e he)⟩, hew, hu, hl, hf⟩, fun k hk => ?_⟩
  · unfold mvOf
    cases hx : M.at i with
    | none => exact h.at0 i (fun hi => by have := (hmem i).1 hi; rw [hx] at this; cases this)
    | some e => exact h.at1 i ((hmem i).2 (by rw [hx]; rfl))
  · rw [h.has]
    cases hx : (M.at i).isSome with
    | true => exact decide_eq_true ((hmem i).2 hx)
    | false => exact decide_eq_false (fun hi => by have := (hmem i).1 hi; rw [hx] at this; cases this)
  rcases hk with rfl | rfl | ⟨e, he, hk⟩
  · rw [h.t]; exact h.lot
  · rw [h.mb]; exact h.lob
  · obtain ⟨q1, q2, q3⟩ := h.low e he (hin e he)
    have := h.lr
    rcases hk with rfl | hk | hk
    · omega
    · have := q2 k hk; omega
    · have := q3 k hk; omega

set_option maxRecDepth 100000 in
set_option maxHeartbeats 8000000 in
theorem below1G_any {w : World} {L : Ly} {M : Dm} {r : Int} (h : RawAt w L M) (hs : Shp0 M r) (n : Nat)
    (ih : ∀ f ∈ M.els, Rch M r n f → ∀ (wc : World) (v : Value) (l : List Int), BSt w wc L v l → l.length + (M.below n f.id).length ≤ M.els.length →
      Calls Tryz.prog 61 #[.int .i64 f.id, .pointer (some ⟨w.heap.size + 1, 0, none⟩), .pointer (some ⟨w.heap.size, 0, none⟩), .pointer (some ⟨w.heap.size + 2, 0, none⟩)] wc fun r w' => r = .returned (.tuple #[]) ∧ ∃ v', BSt w w' L v' (l ++ M.below n f.id))
    (e : El) (he : e ∈ M.els) (hk : ∀ k ∈ e.ks, ∃ f ∈ M.els, f.id = k ∧ f.p = e.id ∧ Rch M r n f) (wc : World) (v : Value) (l : List Int) (hb : BSt w wc L v l) (hl : l.length + (M.below (n + 1) e.id).length ≤ M.els.length) :
    Calls Tryz.prog 61 #[.int .i64 e.id, .pointer (some ⟨w.heap.size + 1, 0, none⟩), .pointer (some ⟨w.heap.size, 0, none⟩), .pointer (some ⟨w.heap.size + 2, 0, none⟩)] wc fun r w' => r = .returned (.tuple #[]) ∧ ∃ v', BSt w w' L v' (l ++ M.below (n + 1) e.id) := by
  have hT := h.grows hb.gr
  have hx := hT.head
  have zx := row_sz' hx
  have ht := hb.tr
  have ho := hb.out
  have hf := hb.fn
  have zt := row_sz' ht
  have zo := row_sz' ho
  have zf := row_sz' hf
  have hew := (h.elWf e he).1
  have hlk := hT.look e.id hew
  have hat : M.at e.id = some e := findE_of h.up he
  unfold mvOf at hlk
  rw [hat] at hlk
  simp only at hlk
  have hlt := h.lt (.inl rfl)
  obtain ⟨c, D, _, hown, _, _, hsz⟩ := hT.map
  have hmb := hown.lt
  have hfew := h.few
  rw [below_atU h.up he, List.length_cons] at hl
  obtain ⟨av, cv, rfl⟩ := own_slice hb.own
  have hTd := h.grows (show w.grows wc.drew by apply World.grows.drew; exact hb.gr)
  have hlen : (Builtin.len_ #[43] 3 #[.map (some L.mb)]).run Tryz.prog wc.drew = .ok (.int .i64 M.els.length) wc.drew := by
    obtain ⟨c', D', _, hown', _, _, hsz'⟩ := hTd.map
    have := hown'.len Tryz.underlying43 3
    rw [hsz'] at this; exact this
  have hgt : ¬ ((M.els.length : Int) < (l.length : Int)) := by omega
  clear hTd
  have hgr := hb.gr
  have hsc := hgr.below.size
  have HM := Lib.hid hown; have HS := Lib.hid hsz
  have HB := Lib.hid hb; have HT := Lib.hid hT; have H0 := Lib.hid h; have HI := Lib.hid ih; have HK := Lib.hid hk
  clear hb hT h hown hsz ih hk
  go_enter Tryz.func61, Tryz.ntmps61
  go_wp2_with fail
  go_region
  go_upto_region 2 with (first
    | ((at_builtin; refine wpList_app w (w.heap.size + 3) rfl (.tmp 15) (.tmp 17) _ rfl 3 (.int .i64 0) 1 8 Tryz.underlying46 (by kernel_rfl) rfl (by omega) (by omega) _ l.length _ rfl (HB.out.own.grows (by repeat (with_reducible first | assumption | exact grA | apply grB | apply grC | apply grD | refine grE ?_ (by omega) _ | refine grF ?_ (by omega) _ _))) _ 1 _ [.int .i64 e.id] rfl rfl (cells_of_row (e := 3) (fr := (0, 0)) (by simp [go_sem])) (by simp [Value.oneCell']) (by omega) (by repeat (with_reducible first | assumption | exact grA | apply grB | apply grC | apply grD | refine grE ?_ (by omega) _ | refine grF ?_ (by omega) _ _)) (by omega) (by simp <;> omega) ?_; intro v' w' hg' HO' HR' HG' HA'); obtain ⟨a2, c2, rfl⟩ := own_slice HO'.out; have r0 : w'.row w.heap.size = some (.cells #[.pointer (some ⟨L.t, 0, none⟩)] 24) := (HR'.out _ (by omega)).trans (by simp [go_sem, ht, zt]); have r1 : w'.row (w.heap.size + 1) = some (.cells #[.slice av l.length cv] 46) := (HR'.out _ (by omega)).trans (by simp [go_sem, ho, zo]); have r2 := (HR'.out (w.heap.size + 2) (by omega)).trans (show _ = _ by simp [go_sem, hf, zf]; rfl); have y0 := row_sz' r0; have y1 := row_sz' r1))
  have hB1 : BSt w (w'.setCell ⟨w.heap.size + 1, 0, none⟩ (.slice a2 (l.length + 1) c2)) L (.slice a2 (l.length + 1) c2) (l ++ [e.id]) := by
    refine ⟨(by repeat (with_reducible first | assumption | exact grA | apply grB | apply grC | apply grD | refine grE ?_ (by omega) _ | refine grF ?_ (by omega) _ _)), ?_, ?_, ?_, ?_⟩
    · rw [World.row_setCell, if_neg (by omega)]; exact r0
    · simp [go_sem, r1, y1]
    · rw [World.row_setCell, if_neg (by omega)]; exact r2
    · have := HO'.out
      rw [List.length_append, List.map_append]
      refine ownsRow_row this fun g hg => ?_
      have := (HO'.out.lt g hg).1
      rw [World.row_setCell, if_neg (by omega)]
  generalize w'.setCell ⟨w.heap.size + 1, 0, none⟩ (.slice a2 (l.length + 1) c2) = W1 at hB1 ⊢
  clear HO' HR' HG' HA' hg' r0 r1 r2 y0 y1 hlk hx zx ht ho hf zt zo zf
  have hgW := hB1.gr
  have hT1 := H0.out.grows hgW
  have hx1 := hT1.head
  have zx1 := row_sz' hx1
  have ht1 := hB1.tr
  have zt1 := row_sz' ht1
  have hlk1 := hT1.look e.id hew
  unfold mvOf at hlk1
  rw [hat] at hlk1
  simp only at hlk1
  have hrow := (hT1.els e he).1
  have zr := row_sz' hrow
  obtain ⟨ka, kc, ek⟩ := own_slice (hT1.els e he).2.1
  unfold elC at hrow
  rw [ek] at hrow
  have HB1 := Lib.hid hB1
  clear hT1 hB1
  go_wp2_with fail
  go_loopg [29] e.ks.length (fun gn v29 wj => ∃ i : Nat, Hid (gn + i = e.ks.length ∧ i ≤ e.ks.length) ∧ v29 = .int .i64 i ∧ w.grows wj ∧ Hid (∃ v, BSt w wj L v (l ++ (e.id :: (e.ks.take i).flatMap (M.below n)))))
  case atStart => exact ⟨0, Lib.hid ⟨by simp, Nat.zero_le _⟩, by go_num, (by repeat (with_reducible first | assumption | exact grA | apply grB | apply grC | apply grD | refine grE ?_ (by omega) _ | refine grF ?_ (by omega) _ _)), Lib.hid ⟨_, by simpa using HB1.out⟩⟩
  case round =>
    obtain ⟨i, HQ, rfl, hgj, HV⟩ := hrel
    obtain ⟨j1, j2⟩ := HQ.out
    obtain ⟨vj, hBj⟩ := HV.out
    by_cases hlt : i < e.ks.length
    · have i1 : (i : Int) < (e.ks.length : Int) := by omega
      have hgt := List.getElem?_eq_getElem hlt
      have hkm := List.getElem_mem hlt
      obtain ⟨f, hf, hfk, hfp, hdk⟩ := HK.out _ hkm
      have hgt' : e.ks[i]? = some f.id := by rw [hgt, hfk]
      have HTK := Lib.hid (show (e.ks.take (i + 1)).flatMap (M.below n) = (e.ks.take i).flatMap (M.below n) ++ M.below n f.id by rw [List.take_add_one, hgt', List.flatMap_append]; simp)
      have hlen2 : ((e.ks.take i).flatMap (M.below n)).length + (M.below n f.id).length ≤ (e.ks.flatMap (M.below n)).length := by
        have h1 : e.ks.flatMap (M.below n) = (e.ks.take (i + 1)).flatMap (M.below n) ++ (e.ks.drop (i + 1)).flatMap (M.below n) := by rw [← List.flatMap_append, List.take_append_drop]
        rw [h1, HTK.out]; simp only [List.length_append]; omega
      have hTr := H0.out.grows hgj
      have hIr := IntsAt_own (hTr.els e he).2.1
      rw [ek] at hIr
      obtain ⟨_, _, e4, _, _, b5⟩ := hIr
      injection e4 with e4 e5 e6
      clear e5
      subst e4; subst e6
      rcases b5 with h0 | ⟨g, off, rfl, _, h4⟩
      · rw [h0] at hlt; simp at hlt
      obtain ⟨cs, _, el, rfl⟩ := h4 i _ hgt'
      have c0 := el.cell (j := 0) rfl
      rw [World.cell?_row, Nat.add_zero, Nat.mul_one] at c0
      have zg := lt_sz el.lt
      have hfr := hBj.fn
      have zfr := row_sz' hfr
      have HC := Lib.hid (HI.out f hf hdk wr vj _ hBj (by simp only [List.length_append, List.length_cons]; omega))
      clear hTr hBj HV h4 el hgt hgt' hkm hfk hdk hlen2
      go_wp2_with (go_at_call 61; go_loud ((with_reducible refine HC.out.mono ?_); rintro r w2 ⟨rfl, v2, hB2⟩); (have hg2 := hB2.gr))
      have HB2 := Lib.hid (show BSt w w2 L v2 (l ++ e.id :: (e.ks.take (i + 1)).flatMap (M.below n)) by rw [HTK.out]; simpa using hB2)
      clear hB2 hfr zfr HC HTK c0 zg
      go_roundg (e.ks.length - (i + 1))
      case measure => omega
      case rel => exact ⟨i + 1, Lib.hid ⟨by omega, by omega⟩, by go_num, hg2, Lib.hid ⟨_, HB2.out⟩⟩
    · have i1 : ¬ (i : Int) < (e.ks.length : Int) := by omega
      obtain rfl : i = e.ks.length := by omega
      rw [List.take_length, ← below_atU H0.out.up he] at hBj
      have HBj := Lib.hid hBj
      clear hBj HV
      go_wp2_with fail
      go_end0
      exact ⟨rfl, _, HBj.out⟩
/-- the closure of Below: what is below an element joins the list -/
theorem belowCG_any {w : World} {L : Ly} {M : Dm} {r : Int} (h : RawAt w L M) (hs : Shp0 M r) : ∀ (n : Nat) (e : El), e ∈ M.els → Rch M r n e → ∀ (wc : World) (v : Value) (l : List Int), BSt w wc L v l → l.length + (M.below n e.id).length ≤ M.els.length →
      Calls Tryz.prog 61 #[.int .i64 e.id, .pointer (some ⟨w.heap.size + 1, 0, none⟩), .pointer (some ⟨w.heap.size, 0, none⟩), .pointer (some ⟨w.heap.size + 2, 0, none⟩)] wc fun r w' => r = .returned (.tuple #[]) ∧ ∃ v', BSt w w' L v' (l ++ M.below n e.id)
  | 0, e, he, hd => (hd.none hs).elim
  | n + 1, e, he, hd => fun wc v l hb hl => below1G_any h hs n (belowCG_any h hs n) e he (fun k hk => hd.kids hs he hk) wc v l hb hl

set_option maxRecDepth 100000 in
set_option maxHeartbeats 8000000 in
theorem domBelowG_any (w : World) (L : Ly) (M : Dm) (h : RawAt w L M) (hs : Shp0 M M.root) : Calls Tryz.prog 46 #[.pointer (some ⟨L.t, 0, none⟩), .int .i64 M.root] w fun r w' => ∃ v, r = .returned v ∧ w.grows w' ∧ w'.ownsRow w.heap.size 3 1 v (M.below 256 M.root).length ((M.below 256 M.root).map (Value.int .i64)) := by
  obtain ⟨e, he, hid, _⟩ := hs.root
  have hT := h.grows (World.grows.alloc (World.grows.refl (w := w)) (.cells #[.pointer (some ⟨L.t, 0, none⟩)] 24))
  have hx := h.head
  have zx := row_sz' hx
  have hlk := hT.look M.root (hid ▸ (h.elWf e he).1)
  unfold mvOf at hlk
  have hat : M.at M.root = some e := hid ▸ findE_of h.up he
  rw [hat] at hlk
  simp only at hlk
  have hR : Rch M M.root 256 e := Rch.ofRoot hid
  have hfew := hR.few hs he
  have HC := Lib.hid (belowCG_any h hs 256 e he hR)
  rw [hid] at hfew HC
  clear h hT hat hR hs
  go_enter Tryz.func46, Tryz.ntmps46
  go_wp2_with (go_at_call 61; go_loud ((with_reducible refine (HC.out _ (.slice none 0 0) [] ⟨(by repeat (with_reducible first | assumption | exact grA | apply grB | apply grC | apply grD | refine grE ?_ (by omega) _ | refine grF ?_ (by omega) _ _)), (by simp [go_sem]), (by simp [go_sem]), (by simp [go_sem]), World.ownsRow_nil _ _ _ _⟩ (by simpa using hfew)).mono ?_); rintro r w2 ⟨rfl, v2, hB2⟩); (have hg2 := hB2.gr); (have hv2 := hB2.out); (have zv2 := row_sz' hv2))
  have h5 : w2.ownsRow (w.heap.size + 3) 3 1 v2 (M.below 256 M.root).length ((M.below 256 M.root).map (Value.int .i64)) := by simpa using hB2.own
  go_ret
  exact ⟨_, rfl, hg2, World.ownsRow.mono_base (B := w.heap.size) (by omega) h5⟩

set_option maxRecDepth 100000 in
set_option maxHeartbeats 8000000 in
theorem domOrderG_any (w : World) (L : Ly) (M : Dm) (h : RawAt w L M) (hs : Shp0 M M.root) : Calls Tryz.prog 23 #[.pointer (some ⟨L.t, 0, none⟩)] w fun r w' => ∃ v, r = .returned v ∧ w.grows w' ∧ w'.ownsRow w.heap.size 3 1 v (M.below 256 M.root).length ((M.below 256 M.root).map (Value.int .i64)) := by
  have hx := h.head
  have zx := row_sz' hx
  have HC := Lib.hid (domBelowG_any w L M h hs)
  clear h
  go_enter Tryz.func23, Tryz.ntmps23
  go_wp2_with (go_at_call 46; go_loud ((with_reducible refine HC.out.mono ?_); rintro r w2 ⟨v2, rfl, hg2, hv2⟩))
  go_ret
  exact ⟨_, rfl, hg2, hv2⟩
end Go.Proofs.YtdbddnkjiehaiaaGreat

/- WALK over dom: joined of any elements. -/
namespace Go
open Go.RowKit
/-- an element's parent and kids fit -/
def okE (M : Dm) (e : El) : Prop := (e.p = -1 ∨ ∃ f ∈ M.els, f.id = e.p) ∧ e.ks.Nodup ∧ ∀ k ∈ e.ks, ∃ f ∈ M.els, f.id = k ∧ f.p = e.id
def isR (M : Dm) (i : Int) : Bool := match M.at i with | some e => decide (e.p = -1) | none => false
def kidsN (M : Dm) (vs : List Int) : Nat := (vs.map fun i => (kidsOf M i).length).sum
/-- one root, kids and parents fit, all hang below the root -/
def Jnd (M : Dm) : Prop := (∀ e ∈ M.els, okE M e) ∧ ∃ r, (∃ e ∈ M.els, e.id = r ∧ e.p = -1) ∧ (∀ e ∈ M.els, e.p = -1 → e.id = r) ∧ kidsN M (M.els.map El.id) + 1 = M.els.length ∧ (M.below 256 r).length = M.els.length
theorem filt1 {vs : List Int} {f : Int → Bool} (hn : vs.Nodup) : (vs.filter f).length = 1 ↔ ∃ r ∈ vs, f r = true ∧ ∀ x ∈ vs, f x = true → x = r := by
  constructor
  · intro h
    obtain ⟨r, hr⟩ := List.length_eq_one_iff.1 h
    have hm : r ∈ vs.filter f := by rw [hr]; simp
    refine ⟨r, (List.mem_filter.1 hm).1, (List.mem_filter.1 hm).2, fun x hx hfx => ?_⟩
    have : x ∈ vs.filter f := List.mem_filter.2 ⟨hx, hfx⟩
    rw [hr] at this; simpa using this
  · rintro ⟨r, hr, h1, h2⟩
    have hm : r ∈ vs.filter f := List.mem_filter.2 ⟨hr, h1⟩
    have h3 : (vs.filter f).length ≤ 1 := nodup_len (m := [r]) (hn.sublist List.filter_sublist) fun x hx => by
      have := h2 x (List.mem_filter.1 hx).1 (List.mem_filter.1 hx).2
      simp [this]
    have := List.length_pos_of_mem hm
    omega
theorem kidsN_app (M : Dm) (a b : List Int) : kidsN M (a ++ b) = kidsN M a + kidsN M b := by
  unfold kidsN; rw [List.map_append, List.sum_append]
theorem kidsN_perm {M : Dm} {a b : List Int} (h : a.Perm b) : kidsN M a = kidsN M b := (h.map _).sum_nat
theorem kidsN_le {M : Dm} {vs : List Int} (h : ∀ x ∈ vs, (kidsOf M x).length ≤ 256) : kidsN M vs ≤ 256 * vs.length := by
  induction vs with
  | nil => simp [kidsN]
  | cons a t ih =>
    have h1 := ih fun x hx => h x (by simp [hx])
    have h2 := h a (by simp)
    rw [show a :: t = [a] ++ t from rfl, kidsN_app]
    simp only [List.length_append, List.length_singleton]
    have : kidsN M [a] = (kidsOf M a).length := by simp [kidsN]
    omega
theorem okE_few {M : Dm} {e : El} (h : okE M e) : e.ks.length ≤ M.els.length := by
  have := nodup_len (m := M.els.map El.id) h.2.1 fun k hk => by
    obtain ⟨f, hf, h1, _⟩ := h.2.2 k hk
    exact List.mem_map.2 ⟨f, hf, h1⟩
  simpa using this
theorem perm_ids {l : List El} {vs : List Int} (hu : l.Pairwise fun a b => a.id < b.id) (hn : vs.Nodup) (h : ∀ x, x ∈ vs ↔ ∃ e ∈ l, e.id = x) : vs.Perm (l.map El.id) := by
  rw [List.perm_ext_iff_of_nodup hn (ids_nodup hu)]
  intro x
  rw [h x, List.mem_map]
theorem isR_at {M : Dm} (hu : M.els.Pairwise fun a b => a.id < b.id) {e : El} (he : e ∈ M.els) : isR M e.id = decide (e.p = -1) := by
  unfold isR; rw [show M.at e.id = some e from findE_of hu he]
theorem kidsOf_atU {M : Dm} (h : M.els.Pairwise fun a b => a.id < b.id) {e : El} (he : e ∈ M.els) : kidsOf M e.id = e.ks := by
  unfold kidsOf
  rw [show M.at e.id = some e from findE_of h he]
theorem belowEls {M N : Dm} (h : M.els = N.els) : ∀ (n : Nat) (i : Int), M.below n i = N.below n i
  | 0, _ => rfl
  | n + 1, i => by
    unfold Dm.below
    rw [show M.at i = N.at i by unfold Dm.at; rw [h]]
    cases N.at i with
    | none => rfl
    | some e => simp only [List.flatMap_def]; rw [List.map_congr_left fun k _ => belowEls h n k]
theorem shp_of {M : Dm} {r : Int} (hu : M.els.Pairwise fun a b => a.id < b.id) (hl : ∀ e ∈ M.els, 0 ≤ e.id) (hf : M.els.length ≤ 256) (hok : ∀ e ∈ M.els, okE M e) (hr : ∃ e ∈ M.els, e.id = r ∧ e.p = -1) : Shp0 M r :=
  ⟨hu, hl, hf, hr, fun e he k hk => (hok e he).2.2 k hk, fun e he => (hok e he).2.1⟩
end Go
namespace Go.Proofs.YtdbddnkjiehaiaaGreat
open Go.Maps Go.RowKit Go.Sort
theorem MpI.look_put {w W : World} {b n m : Nat} {f : Int → Option Int} {D : DataW Value} (h : MpI w b n f D) {i v : Int} (hi : I64 i) (ho : W.ownsMap Tryz.prog 3 heldP b m (D.put (.int .i64 i) (.held (.int .i64 v)))) : (Instr.lookup 72 (.map (some b)) (.int .i64 i) false).run Tryz.prog W = .ok (.int .i64 v) W := by
  obtain ⟨v', ps, hrun, hv⟩ := ho.lookup (int_keyed Tryz.underlying3) Tryz.underlying72 (zero_int W) (zd := zI) (zp := []) rfl (keyOf_int_mk Tryz.underlying3 (lit_wf hi))
  rw [atKey_put_same (h.own.tidy (int_keyed Tryz.underlying3)).isMap (by first | exact trivial | exact .inl ⟨_, rfl⟩ | simp [WideAt.IsKeyLit])] at hv
  unfold heldP at hv
  simp only [Option.some.injEq, Prod.mk.injEq, DataW.held.injEq] at hv
  rw [hrun, hv.1]
end Go.Proofs.YtdbddnkjiehaiaaGreat

/- WALK over dom: joined of any elements. No condition but that they lie in memory as a tree's do. -/
namespace Go.Proofs.YtdbddnkjiehaiaaGreat
open Go.Maps Go.RowKit Go.Sort

def JPost (w0 : World) (L : Ly) (M : Dm) (r : Ending) (w' : World) : Prop := ∃ b : Bool, r = .returned (.bool b) ∧ w0.grows w' ∧ (b = true ↔ Jnd M) ∧ ∃ rt, RawAt w' L ⟨rt, M.next, M.els⟩ ∧ (b = true → isR M rt = true)

set_option maxRecDepth 100000 in
set_option maxHeartbeats 40000000 in
theorem domJoinedG_any (w0 w : World) (L : Ly) (M : Dm) (h0 : w0.grows w) (h : RawAt w L M) (ht0 : w0.heap.size ≤ L.t) : Calls Tryz.prog 12 #[.pointer (some ⟨L.t, 0, none⟩)] w (JPost w0 L M) := by
  have hx := h.head
  have zx := row_sz' hx
  obtain ⟨c, D, hcn, hown, hmp, hhas, hsz⟩ := h.map
  have HO := Lib.hid hown; have HMP := Lib.hid hmp; have HH := Lib.hid hhas
  have HLT := Lib.hid (fun k (hk : L.own M.els k) => h.lt hk)
  have HT := Lib.hid h
  have hmk := fun (W : World) => run_makeMap (P := Tryz.prog) 72 W
  have hfew := h.few
  have s0 := h0.below.size
  clear h hown hmp hhas hsz
  go_enter Tryz.func12, Tryz.ntmps12
  go_wp2_with (at_range; go_loud (refine wpList_range_own _ rfl _ 43 rfl 3 52 (int_keyed Tryz.underlying3) Tryz.underlying43 heldP L.mb c D rfl HO.out ?_); intro w2 hrg2 hg2 hs2)
  go_frame
  have hgw2 : w0.grows w2 := World.grows.grown h0 hg2 (fun _ h => nomatch h)
  have r2 : ∀ k, k < w.heap.size → w2.row k = w.row k := fun k hk => World.row_grow hg2 hk (fun h => nomatch h)
  have HT2 := Lib.hid (HT.out.keep (W := w2) fun k _ hl => r2 k hl)
  have HRG := Lib.hid hrg2
  clear hrg2 hx zx r2 hg2
  go_loopg [3, 4] M.els.length (fun gn v3 v4 wj => ∃ (vs : List Int) (left : Lit → Bool) (cnt : Nat) (rt kn cr : Int), Hid (gn + vs.length = M.els.length) ∧ Hid (vs.Nodup ∧ ∀ x ∈ vs, ∃ e ∈ M.els, e.id = x ∧ okE M e) ∧ Hid (rt = ((vs.filter (isR M)).length : Nat)) ∧ Hid (kn = (kidsN M vs : Nat)) ∧ v3 = .int .i64 rt ∧ v4 = .int .i64 kn ∧ w0.grows wj ∧ Hid (RawAt wj L ⟨cr, M.next, M.els⟩ ∧ ((∃ x ∈ vs, isR M x = true) → isR M cr = true)) ∧ Hid (wj.ranges Tryz.prog 3 heldP L.mb w.heap.size c D left cnt) ∧ Hid (∀ i, left (.int .i64 i) = true ↔ ((M.at i).isSome = true ∧ i ∉ vs)))
  case atStart => exact ⟨[], _, _, 0, 0, M.root, Lib.hid (by simp), Lib.hid ⟨List.nodup_nil, fun x hx => nomatch hx⟩, Lib.hid (by simp), Lib.hid (by simp [kidsN]), by go_num, by go_num, hgw2, Lib.hid ⟨HT2.out, fun ⟨x, hx, _⟩ => nomatch hx⟩, HRG, Lib.hid fun i => by rw [HH.out]; simp⟩
  case round =>
    obtain ⟨vs, left, cnt, rt, kn, cr, HQ, HV, HRT, HKN, rfl, rfl, hgj, HTJ, HR, HL⟩ := hrel
    go_wp2_with (at_next; go_loud (refine wpList_next_ranges _ rfl _ rfl 3 (int_keyed Tryz.underlying3) heldP (Value.int .i64) (id : Value → Value) (fun key kl hkey => by obtain ⟨x, rfl, _⟩ := Maps.keyOf_int_inv Tryz.underlying3 hkey; exact ⟨x, rfl⟩) (fun v y _ => ⟨v, rfl⟩) L.mb w.heap.size c D left cnt rfl HR.out ?_ ?_))
    · intro hc0 hl0
      have hall : ∀ e ∈ M.els, e.id ∈ vs := fun e he => by
        apply Classical.byContradiction
        intro hn
        have := (HL.out e.id).2 ⟨by unfold Dm.at; rw [findE_of HT.out.up he]; rfl, hn⟩
        rw [hl0] at this; cases this
      have hperm := perm_ids HT.out.up HV.out.1 (fun x => ⟨fun hx => by obtain ⟨e, he, h1, _⟩ := HV.out.2 x hx; exact ⟨e, he, h1⟩, fun ⟨e, he, h1⟩ => h1 ▸ hall e he⟩)
      have hokA : ∀ e ∈ M.els, okE M e := fun e he => by
        obtain ⟨e', he', h1, h2⟩ := HV.out.2 e.id (hall e he)
        obtain rfl := ids_inj HT.out.up he' he h1
        exact h2
      have hkn : kn = (kidsN M (M.els.map El.id) : Nat) := by rw [HKN.out, kidsN_perm hperm]
      have hr1 : rt = 1 → isR M cr = true ∧ (∃ e ∈ M.els, e.id = cr ∧ e.p = -1) ∧ ∀ e ∈ M.els, e.p = -1 → e.id = cr := fun hh => by
        have h1 : (vs.filter (isR M)).length = 1 := by have := HRT.out; omega
        obtain ⟨r, q1, q2, q3⟩ := (filt1 HV.out.1).1 h1
        have q4 := HTJ.out.2 ⟨r, q1, q2⟩
        have q5 : ∃ e ∈ M.els, e.id = cr ∧ e.p = -1 := by
          unfold isR at q4
          cases hc : M.at cr with
          | none => rw [hc] at q4; cases q4
          | some e => rw [hc] at q4; obtain ⟨he, h2⟩ := findE_some hc; exact ⟨e, he, h2, of_decide_eq_true q4⟩
        obtain ⟨ec, hec, hc1, hc2⟩ := q5
        have q6 : cr = r := q3 cr (hc1 ▸ hall ec hec) q4
        exact ⟨q4, ⟨ec, hec, hc1, hc2⟩, fun e he hp => by
          rw [q6]; exact q3 e.id (hall e he) (by rw [isR_at HT.out.up he]; exact decide_eq_true hp)⟩
      have hr2 : (∃ r, (∃ e ∈ M.els, e.id = r ∧ e.p = -1) ∧ ∀ e ∈ M.els, e.p = -1 → e.id = r) → rt = 1 := fun ⟨r, ⟨er, her, e1, e2⟩, h3⟩ => by
        have := (filt1 (f := isR M) HV.out.1).2 ⟨r, e1 ▸ hall er her, by rw [← e1, isR_at HT.out.up her]; exact decide_eq_true e2, fun x hx hfx => by
          obtain ⟨e, he, h1, _⟩ := HV.out.2 x hx
          rw [← h1, isR_at HT.out.up he] at hfx
          rw [← h1]; exact h3 e he (of_decide_eq_true hfx)⟩
        rw [HRT.out, this]; rfl
      have HLEN := Lib.hid (fun (W : World) (hW : wr.grows W) => (show (Builtin.len_ #[43] 3 #[.map (some L.mb)]).run Tryz.prog W = .ok (.int .i64 M.els.length) W by
        obtain ⟨c', D', _, hown', _, _, hsz'⟩ := (HTJ.out.1.grows hW).map
        have := hown'.len Tryz.underlying43 3
        rw [hsz'] at this; exact this))
      have hl0 := fun x => HLEN.out (wr.plus x) (by repeat (with_reducible first | assumption | exact grA | apply grB | apply grC | apply grD | refine grE ?_ (by omega) _ | refine grF ?_ (by omega) _ _))
      have hxr := HTJ.out.1.head
      have zxr := row_sz' hxr
      have HR2 := Lib.hid hr2
      have hkb : 0 ≤ kn := by omega
      clear HR HL hr2
      by_cases hrt : rt = 1
      · obtain ⟨q1, q2, q3⟩ := hr1 hrt
        by_cases hkk : kn = (M.els.length : Int) - 1
        · have hs : Shp0 ⟨cr, M.next, M.els⟩ cr := shp_of (M := ⟨cr, M.next, M.els⟩) HT.out.up HT.out.low hfew hokA q2
          have KO := Lib.hid (fun (W : World) (hW : wr.grows W) => domOrderG_any W L ⟨cr, M.next, M.els⟩ (HTJ.out.1.grows hW) hs)
          have hbe : Dm.below ⟨cr, M.next, M.els⟩ 256 cr = M.below 256 cr := belowEls rfl 256 cr
          have HBE := Lib.hid hbe
          have HJ := Lib.hid (show Jnd M ↔ (M.below 256 cr).length = M.els.length from ⟨fun hj => by
            obtain ⟨_, r, ⟨er, her, e1, e2⟩, h3, _, h4⟩ := hj
            have := q3 er her e2
            rw [← this, e1]; exact h4, fun hl => ⟨hokA, cr, q2, q3, by omega, hl⟩⟩)
          have HC1 := Lib.hid q1
          clear hr1 HV HRT HKN hs hbe hokA q1 q2 q3 hkn
          subst hrt
          go_upto_region 19 with fail
          refine wp_region_plus_seq (by kernel_rfl) (by kernel_rfl) (fun x0 => ?_)
          repeat (any_goals (first | (refine wpSeqL_free rfl ?_; first | (go_big_quiet_skip; refine wpQuiet_nil ?_) | (go_big_quiet_step (fail); refine wpQuiet_nil ?_) | (refine wpQuiet_step (fun K hK => ?_); go_simp; split <;> (refine hK _ ?_; clear hK K; refine wpQuiet_nil ?_))) | (refine wpSeqL_link rfl (fun K hK => ?_); go_simp; first | first | (refine hK _ _ (by show World.grows _ _; repeat (first | assumption | exact grA | apply grB | apply grC | apply grD)) ?_; clear hK K) | (((go_at_call 23; go_loud ((with_reducible refine (KO.out _ (by repeat (with_reducible first | assumption | exact grA | apply grB | apply grC | apply grD | refine grE ?_ (by omega) _ | refine grF ?_ (by omega) _ _))).mono ?_); rintro r w5 ⟨v5, rfl, hg5, hv5⟩; (obtain ⟨a5, c5, rfl⟩ := own_slice hv5); (have hgw5 : wr.grows w5 := World.grows.trans (by repeat (with_reducible first | assumption | exact grA | apply grB | apply grC | apply grD | refine grE ?_ (by omega) _ | refine grF ?_ (by omega) _ _)) hg5); (have hl5 := fun x => HLEN.out (w5.plus x) (hgw5.trans (World.grows.refl.plus x))); (have hl5' := HLEN.out w5 hgw5); (have hx5 := (HTJ.out.1.grows hgw5).head); (have zx5 := row_sz' hx5); clear hv5))); refine ⟨_, rfl, hK _ _ (by show World.grows _ _; repeat (first | assumption | exact grA | apply grB | apply grC | apply grD)) ?_⟩; clear hK K) | (split <;> (first | (refine hK _ _ (by show World.grows _ _; repeat (first | assumption | exact grA | apply grB | apply grC | apply grD)) ?_; clear hK K) | (((go_at_call 23; go_loud ((with_reducible refine (KO.out _ (by repeat (with_reducible first | assumption | exact grA | apply grB | apply grC | apply grD | refine grE ?_ (by omega) _ | refine grF ?_ (by omega) _ _))).mono ?_); rintro r w5 ⟨v5, rfl, hg5, hv5⟩; (obtain ⟨a5, c5, rfl⟩ := own_slice hv5); (have hgw5 : wr.grows w5 := World.grows.trans (by repeat (with_reducible first | assumption | exact grA | apply grB | apply grC | apply grD | refine grE ?_ (by omega) _ | refine grF ?_ (by omega) _ _)) hg5); (have hl5 := fun x => HLEN.out (w5.plus x) (hgw5.trans (World.grows.refl.plus x))); (have hl5' := HLEN.out w5 hgw5); (have hx5 := (HTJ.out.1.grows hgw5).head); (have zx5 := row_sz' hx5); clear hv5))); refine ⟨_, rfl, hK _ _ (by show World.grows _ _; repeat (first | assumption | exact grA | apply grB | apply grC | apply grD)) ?_⟩; clear hK K))))))
          all_goals (refine wpSeqL_end ?_)
          go_wp2_with fail
          go_ret
          refine ⟨_, rfl, hgj.trans (by repeat (with_reducible first | assumption | exact grA | apply grB | apply grC | apply grD | refine grE ?_ (by omega) _ | refine grF ?_ (by omega) _ _)), ?_, cr, HTJ.out.1.grows (by repeat (with_reducible first | assumption | exact grA | apply grB | apply grC | apply grD | refine grE ?_ (by omega) _ | refine grF ?_ (by omega) _ _)), fun _ => HC1.out⟩
          rw [HJ.out, ← HBE.out]
          simp only [beq_iff_eq]
          constructor <;> intro hh <;> omega
        · have HNJ := Lib.hid (show ¬ Jnd M from fun ⟨_, _, _, _, h4, _⟩ => hkk (by omega))
          have hcr := HTJ.out.1
          clear hr1 HV HRT HKN hokA q1 q2 q3 hkn
          subst hrt
          have hkk2 : (kn == (M.els.length : Int) - 1) = false := by simpa using hkk
          go_upto_region 19 with fail
          refine wp_region_plus_seq (by kernel_rfl) (by kernel_rfl) (fun x0 => ?_)
          repeat (any_goals (first | (refine wpSeqL_free rfl ?_; first | (go_big_quiet_skip; refine wpQuiet_nil ?_) | (go_big_quiet_step (fail); refine wpQuiet_nil ?_) | (refine wpQuiet_step (fun K hK => ?_); go_simp; split <;> (refine hK _ ?_; clear hK K; refine wpQuiet_nil ?_))) | (refine wpSeqL_link rfl (fun K hK => ?_); go_simp; first | first | (refine hK _ _ (by show World.grows _ _; repeat (first | assumption | exact grA | apply grB | apply grC | apply grD)) ?_; clear hK K) | ((fail); refine ⟨_, rfl, hK _ _ (by show World.grows _ _; repeat (first | assumption | exact grA | apply grB | apply grC | apply grD)) ?_⟩; clear hK K) | (split <;> (first | (refine hK _ _ (by show World.grows _ _; repeat (first | assumption | exact grA | apply grB | apply grC | apply grD)) ?_; clear hK K) | ((fail); refine ⟨_, rfl, hK _ _ (by show World.grows _ _; repeat (first | assumption | exact grA | apply grB | apply grC | apply grD)) ?_⟩; clear hK K))))))
          all_goals (refine wpSeqL_end ?_)
          go_wp2_with fail
          go_ret
          exact ⟨false, rfl, hgj.trans (by repeat (with_reducible first | assumption | exact grA | apply grB | apply grC | apply grD | refine grE ?_ (by omega) _ | refine grF ?_ (by omega) _ _)), ⟨fun hh => (nomatch hh), fun hj => absurd hj HNJ.out⟩, cr, hcr.grows (by repeat (with_reducible first | assumption | exact grA | apply grB | apply grC | apply grD | refine grE ?_ (by omega) _ | refine grF ?_ (by omega) _ _)), fun hh => (nomatch hh)⟩
      · have HNJ := Lib.hid (show ¬ Jnd M from fun ⟨_, r, h2, h3, _, _⟩ => hrt (HR2.out ⟨r, h2, h3⟩))
        have hcr := HTJ.out.1
        have hrt2 : (rt == 1) = false := by simpa using hrt
        clear hr1 HV HRT HKN hokA hkn
        go_upto_region 19 with fail
        refine wp_region_plus_seq (by kernel_rfl) (by kernel_rfl) (fun x0 => ?_)
        repeat (any_goals (first | (refine wpSeqL_free rfl ?_; first | (go_big_quiet_skip; refine wpQuiet_nil ?_) | (go_big_quiet_step (fail); refine wpQuiet_nil ?_) | (refine wpQuiet_step (fun K hK => ?_); go_simp; split <;> (refine hK _ ?_; clear hK K; refine wpQuiet_nil ?_))) | (refine wpSeqL_link rfl (fun K hK => ?_); go_simp; first | first | (refine hK _ _ (by show World.grows _ _; repeat (first | assumption | exact grA | apply grB | apply grC | apply grD)) ?_; clear hK K) | ((fail); refine ⟨_, rfl, hK _ _ (by show World.grows _ _; repeat (first | assumption | exact grA | apply grB | apply grC | apply grD)) ?_⟩; clear hK K) | (split <;> (first | (refine hK _ _ (by show World.grows _ _; repeat (first | assumption | exact grA | apply grB | apply grC | apply grD)) ?_; clear hK K) | ((fail); refine ⟨_, rfl, hK _ _ (by show World.grows _ _; repeat (first | assumption | exact grA | apply grB | apply grC | apply grD)) ?_⟩; clear hK K))))))
        all_goals (refine wpSeqL_end ?_)
        go_wp2_with fail
        go_ret
        exact ⟨false, rfl, hgj.trans (by repeat (with_reducible first | assumption | exact grA | apply grB | apply grC | apply grD | refine grE ?_ (by omega) _ | refine grF ?_ (by omega) _ _)), ⟨fun hh => (nomatch hh), fun hj => absurd hj HNJ.out⟩, cr, hcr.grows (by repeat (with_reducible first | assumption | exact grA | apply grB | apply grC | apply grD | refine grE ?_ (by omega) _ | refine grF ?_ (by omega) _ _)), fun hh => (nomatch hh)⟩
    · intro x c' kl y1 y2 w3 cnt' hkx hlx hRc hat hrg3 hcl hg3 hs3 hen
      obtain ⟨_, hx', rfl, hwx⟩ := Maps.keyOf_int_inv Tryz.underlying3 hkx
      cases hx'
      obtain ⟨hsome, hnv⟩ := (HL.out x).1 hlx
      cases hat0 : M.at x with
      | none => rw [hat0] at hsome; cases hsome
      | some e =>
        obtain ⟨he, rfl⟩ := findE_some hat0
        have hc' : c' = .pointer (some ⟨L.bl e.id, 0, none⟩) := by
          have h1 := hat nilP
          have h2 := HMP.out.2 e.id
          rw [h1] at h2
          unfold heldP at hRc
          cases hRc
          injection h2 with h2
          exact (show c' = mvOf L M e.id from h2).trans (by unfold mvOf; rw [hat0])
        subst hc'
        have hw0 : w0.heap.size ≤ w.heap.size := s0
        have hgw3 : w0.grows w3 := World.grows.grown hgj hg3 (fun k hk => by cases hk; exact hw0)
        have r3 : ∀ k, k < wr.heap.size → k ≠ w.heap.size → w3.row k = wr.row k := fun k hk hn => World.row_grow hg3 hk (fun h => by injection h with h; exact hn h)
        have hT3 := HTJ.out.1.keep (W := w3) fun k hk hl => r3 k hl (by have := HLT.out k hk; omega)
        have HT3 := Lib.hid hT3
        have HCR := Lib.hid HTJ.out.2
        have hx3 := hT3.head
        have zx3 := row_sz' hx3
        have hrow := (hT3.els e he).1
        have zr := row_sz' hrow
        obtain ⟨ka, kc, ek⟩ := own_slice (hT3.els e he).2.1
        obtain ⟨aa, ac, ea⟩ := own_slice (hT3.els e he).2.2
        unfold elC at hrow
        rw [ek, ea] at hrow
        have HEK := Lib.hid ek
        have HE := Lib.hid he; have HNV := Lib.hid hnv; have HRG3 := Lib.hid hrg3
        have hmbl := (HRG3.out |> ranges_lt)
        have hw3r := hmbl.2
        have HV2 := Lib.hid (show ∀ (hok : okE M e), (vs ++ [e.id]).Nodup ∧ ∀ x ∈ vs ++ [e.id], ∃ e ∈ M.els, e.id = x ∧ okE M e from fun hok => ⟨by
          rw [List.nodup_append]
          exact ⟨HV.out.1, by simp, fun a ha b hb hab => by simp at hb; subst hb; subst hab; exact hnv ha⟩, fun y hy => by
          rcases List.mem_append.1 hy with hy | hy
          · exact HV.out.2 y hy
          · simp at hy; exact ⟨e, he, hy.symm, hok⟩⟩)
        have HKV := Lib.hid (show kidsN M vs ≤ 256 * vs.length from kidsN_le fun x hx => by
          obtain ⟨y, hy, h1, h2⟩ := HV.out.2 x hx
          have := okE_few h2
          rw [← h1, kidsOf_atU HT.out.up hy]; omega)
        have HVL := Lib.hid (show vs.length ≤ M.els.length by
          have := nodup_len (m := M.els.map El.id) HV.out.1 fun x hx => by
            obtain ⟨y, hy, h1, _⟩ := HV.out.2 x hx
            exact List.mem_map.2 ⟨y, hy, h1⟩
          simpa using this)
        have hrt2 : (0 : Int) ≤ rt ∧ rt ≤ 256 := by
          have h1 := HRT.out
          have h2 := List.length_filter_le (isR M) vs
          have h3 := HVL.out
          omega
        have hkn2 : (0 : Int) ≤ kn ∧ kn ≤ 65536 := by
          have h1 := HKN.out; have h2 := HKV.out; have h3 := HVL.out
          omega
        have HPAR := Lib.hid (show ∀ (hno : e.p ≠ -1) (hnf : M.at e.p = none), ¬ Jnd M from fun hno hnf hj => by
          rcases (hj.1 e he).1 with h1 | ⟨f, hf, h1⟩
          · exact hno h1
          · exact findE_none hnf f hf h1)
        have HNK := Lib.hid (show ¬ okE M e → ¬ Jnd M from fun h1 hj => h1 (hj.1 e he))
        clear hat hRc hlx hkx hwx hsome hat0 hnv hrg3 r3 hT3 ek ea he
        by_cases hp : e.p = -1
        case' pos =>
          have HP := Lib.hid hp
          rw [hp] at hrow
          clear hp
          go_upto_region 10 with fail
          have q8 : w0.grows (w3.setCell ⟨L.t, 1, none⟩ (.int .i64 e.id)) := grF hgw3 ht0 _ _
          have qr : ∀ k, k ≠ L.t → (w3.setCell ⟨L.t, 1, none⟩ (.int .i64 e.id)).row k = w3.row k := fun k hk => by rw [World.row_setCell, if_neg hk]
          have q9 : (w3.setCell ⟨L.t, 1, none⟩ (.int .i64 e.id)).row L.t = some (.cells #[.map (some L.mb), .int .i64 e.id, .int .i64 M.next] 45) := by simp [go_sem, hx3, zx3]
          have HT8 := Lib.hid (HT3.out.hd (M' := ⟨e.id, M.next, M.els⟩) rfl qr q9)
          have hmbt : L.mb ≠ L.t := fun hh => by
            have q1 := HT.out.ok.1; have q2 := HT.out.ok.2.1
            rw [hh, q1] at q2; cases q2
          have hrt0 : w.heap.size ≠ L.t := fun hh => by have := HLT.out L.t (.inl rfl); omega
          have HR8 := Lib.hid (ranges_row HRG3.out (qr L.mb hmbt) (qr w.heap.size hrt0))
          have hisr : isR M e.id = true := by rw [isR_at HT.out.up HE.out]; exact decide_eq_true HP.out
          have HRT8 := Lib.hid (show rt + 1 = (((vs ++ [e.id]).filter (isR M)).length : Nat) by rw [List.filter_append, List.length_append, HRT.out]; simp [hisr])
          have HCR8 := Lib.hid (show (∃ x ∈ vs ++ [e.id], isR M x = true) → isR M e.id = true from fun _ => hisr)
          have HPO := Lib.hid (show e.p = -1 ∨ ∃ f ∈ M.els, f.id = e.p from .inl HP.out)
          have hsz8 : w.heap.size < (w3.setCell ⟨L.t, 1, none⟩ (.int .i64 e.id)).heap.size := by rw [World.setCell_size']; exact hw3r
          obtain ⟨c8, HT9, HCR9⟩ : ∃ c8, Hid (RawAt (w3.setCell ⟨L.t, 1, none⟩ (.int .i64 e.id)) L ⟨c8, M.next, M.els⟩) ∧ Hid ((∃ x ∈ vs ++ [e.id], isR M x = true) → isR M c8 = true) := ⟨e.id, HT8, HCR8⟩
          clear HT8 HCR8
          generalize w3.setCell ⟨L.t, 1, none⟩ (.int .i64 e.id) = w8 at *
          clear qr q9 hx3 zx3 hrow zr hisr hmbt hrt0 HP
        case' neg =>
          have hpb : (e.p == -1) = false := by simp [hp]
          have hlk := fun x : Ext => (HT3.out.grows (World.grows.refl.plus x)).look e.p (HT.out.elWf e HE.out).2.1
          unfold mvOf at hlk
          rcases hpat : M.at e.p with _ | f
          case none =>
            have HNJ := Lib.hid (HPAR.out hp hpat)
            rw [show Dm.at ⟨cr, M.next, M.els⟩ e.p = none from hpat] at hlk
            simp only at hlk
            have HTC := Lib.hid HT3.out
            clear hp hpat
            go_upto_region 8 with fail
            refine wp_region_plus_lit (by kernel_rfl) (by kernel_rfl) ?_
            repeat (go_big_quiet_step (fail))
            (refine wpQuiet_nil ?_; intro _ hw'; obtain ⟨xq, hw''⟩ := hw'; subst hw'')
            go_wp2_with fail
            go_ret
            exact ⟨false, rfl, hgw3.trans (by repeat (with_reducible first | assumption | exact grA | apply grB | apply grC | apply grD | refine grE ?_ (by omega) _ | refine grF ?_ (by omega) _ _)), ⟨fun hh => (nomatch hh), fun hj => absurd hj HNJ.out⟩, cr, HTC.out.grows (by repeat (with_reducible first | assumption | exact grA | apply grB | apply grC | apply grD | refine grE ?_ (by omega) _ | refine grF ?_ (by omega) _ _)), fun hh => (nomatch hh)⟩
          obtain ⟨hf, hfp⟩ := findE_some hpat
          rw [show Dm.at ⟨cr, M.next, M.els⟩ e.p = some f from hpat] at hlk
          simp only at hlk
          go_upto_region 8 with fail
          refine wp_region_plus_lit (by kernel_rfl) (by kernel_rfl) ?_
          repeat (go_big_quiet_step (fail))
          (refine wpQuiet_nil ?_; intro _ hw'; obtain ⟨xq, hw''⟩ := hw'; subst hw'')
          go_upto_region 10 with fail
          have q8 : w0.grows (w3.plus xq) := (by repeat (with_reducible first | assumption | exact grA | apply grB | apply grC | apply grD | refine grE ?_ (by omega) _ | refine grF ?_ (by omega) _ _))
          have HT8 := Lib.hid (HT3.out.grows (W := w3.plus xq) (by repeat (with_reducible first | assumption | exact grA | apply grB | apply grC | apply grD | refine grE ?_ (by omega) _ | refine grF ?_ (by omega) _ _)))
          have HR8 := Lib.hid (ranges_row HRG3.out (World.grows.row_eq (w := w3) (W := w3.plus xq) (by repeat (with_reducible first | assumption | exact grA | apply grB | apply grC | apply grD | refine grE ?_ (by omega) _ | refine grF ?_ (by omega) _ _)) hmbl.1) (World.grows.row_eq (w := w3) (W := w3.plus xq) (by repeat (with_reducible first | assumption | exact grA | apply grB | apply grC | apply grD | refine grE ?_ (by omega) _ | refine grF ?_ (by omega) _ _)) hmbl.2))
          have hisr : isR M e.id = false := by rw [isR_at HT.out.up HE.out]; exact decide_eq_false hp
          have HRT8 := Lib.hid (show rt = (((vs ++ [e.id]).filter (isR M)).length : Nat) by rw [List.filter_append, List.length_append, HRT.out]; simp [hisr])
          have HCR8 := Lib.hid (show (∃ x ∈ vs ++ [e.id], isR M x = true) → isR M cr = true from fun ⟨x, hx, h1⟩ => by
            rcases List.mem_append.1 hx with hx | hx
            · exact HCR.out ⟨x, hx, h1⟩
            · simp at hx; subst hx; rw [hisr] at h1; cases h1)
          have HPO := Lib.hid (show e.p = -1 ∨ ∃ f ∈ M.els, f.id = e.p from .inr ⟨f, hf, hfp⟩)
          have hsz8 : w.heap.size < (w3.plus xq).heap.size := Nat.lt_of_lt_of_le hw3r (show w3.grows (w3.plus xq) from (by repeat (with_reducible first | assumption | exact grA | apply grB | apply grC | apply grD | refine grE ?_ (by omega) _ | refine grF ?_ (by omega) _ _))).below.size
          obtain ⟨c8, HT9, HCR9⟩ : ∃ c8, Hid (RawAt (w3.plus xq) L ⟨c8, M.next, M.els⟩) ∧ Hid ((∃ x ∈ vs ++ [e.id], isR M x = true) → isR M c8 = true) := ⟨cr, HT8, HCR8⟩
          clear HT8 HCR8
          generalize w3.plus xq = w8 at *
          clear hx3 zx3 hrow zr hp hpb hf hfp hlk hisr hpat
        all_goals
          have hrow := (HT9.out.els e HE.out).1
          have zr := row_sz' hrow
          unfold elC at hrow
          rw [HEK.out] at hrow
          have hkw := (HT.out.elWf e HE.out).2.2.2.2.2.2.2
          go_upto_region 12 with fail
          have hg9 : w8.grows (w8.alloc (Obj.map #[] 0)) := (by repeat (with_reducible first | assumption | exact grA | apply grB | apply grC | apply grD | refine grE ?_ (by omega) _ | refine grF ?_ (by omega) _ _))
          have HM9 := Lib.hid (MpI.made w8)
          have hgw9 : w0.grows (w8.alloc (Obj.map #[] 0)) := (by repeat (with_reducible first | assumption | exact grA | apply grB | apply grC | apply grD | refine grE ?_ (by omega) _ | refine grF ?_ (by omega) _ _))
          have HT10 := Lib.hid (HT9.out.grows hg9)
          have HR9 := Lib.hid (ranges_row HR8.out (hg9.row_eq (ranges_lt HR8.out).1) (hg9.row_eq (ranges_lt HR8.out).2))
          have hsz9 : w.heap.size < w8.heap.size := hsz8
          have HKW := Lib.hid (show ∀ k ∈ e.ks, I64 k from (HT.out.elWf e HE.out).2.2.2.1)
          have hsz90 : w8.heap.size < (w8.alloc (Obj.map #[] 0)).heap.size := by simp
          generalize w8.alloc (Obj.map #[] 0) = w9 at *
          generalize w8.heap.size = mb at *
          clear hrow zr hg9 HT9 HR8 hsz8
          go_loopg [47] e.ks.length (fun gn v47 wk => ∃ (i : Nat) (f : Int → Option Int) (D' : DataW Value), Hid (gn + i = e.ks.length ∧ i ≤ e.ks.length) ∧ v47 = .int .i64 i ∧ w0.grows wk ∧ Hid (RawAt wk L ⟨c8, M.next, M.els⟩) ∧ Hid (wk.ranges Tryz.prog 3 heldP L.mb w.heap.size c D (fun z => left z && !z.sameKey (.int .i64 e.id)) cnt') ∧ Hid (MpI wk mb i f D') ∧ Hid ((∀ x, f x = if x ∈ e.ks.take i then some 1 else none) ∧ (e.ks.take i).Nodup ∧ ∀ k ∈ e.ks.take i, ∃ f' ∈ M.els, f'.id = k ∧ f'.p = e.id))
          case atStart => exact ⟨0, _, _, Lib.hid ⟨by simp, Nat.zero_le _⟩, by go_num, hgw9, HT10, HR9, HM9, Lib.hid ⟨fun x => by simp, by simp, fun k hk => by simp at hk⟩⟩
          case round =>
            obtain ⟨i, f, D', HQ2, rfl, hgk, HTK, HRK, HMK, HF⟩ := hrel
            obtain ⟨m1, m2⟩ := HQ2.out
            by_cases hlt : i < e.ks.length
            · have iI : (i : Int) < (e.ks.length : Int) := by omega
              have hgt := List.getElem?_eq_getElem hlt
              have hkm := List.getElem_mem hlt
              have HTKE := Lib.hid (show e.ks.take (i + 1) = e.ks.take i ++ [e.ks[i]] by rw [List.take_add_one, hgt]; rfl)
              have HDUP := Lib.hid (show e.ks[i] ∈ e.ks.take i → ¬ okE M e from fun hm hok => by
                obtain ⟨j, hj, hj2⟩ := List.mem_iff_getElem.1 hm
                have hji : j < i := by simp at hj; omega
                rw [List.getElem_take] at hj2
                have := (List.getElem?_inj (by omega) hok.2.1).1 (show e.ks[j]? = e.ks[i]? by rw [List.getElem?_eq_getElem (by omega), hgt, hj2])
                omega)
              have hki : I64 e.ks[i] := HKW.out _ hkm
              generalize e.ks[i] = k at *
              have hks := (HTK.out.els e HE.out).2.1
              rw [HEK.out] at hks
              obtain ⟨_, _, e4, _, _, b5⟩ := IntsAt_own hks
              injection e4 with e4 e5 e6
              clear e5
              subst e4; subst e6
              rcases b5 with h0' | ⟨g, off, rfl, _, h4⟩
              · rw [h0'] at hlt; simp at hlt
              obtain ⟨cs, _, el, rfl⟩ := h4 i _ hgt
              have c0 := el.cell (j := 0) rfl
              rw [World.cell?_row, Nat.add_zero, Nat.mul_one] at c0
              have zg := lt_sz el.lt
              have hlm := HMK.out.look k hki
              have hlm' := HMK.out.own.lt
              have hvl : i < maxLen := by simp only [maxLen]; omega
              have HOK := Lib.hid HMK.out.own
              have HDV := Lib.hid (show (k ∈ e.ks.take i ∧ (f k).getD 0 = 1) ∨ (k ∉ e.ks.take i ∧ f k = none ∧ (f k).getD 0 = 0) by
                rw [HF.out.1]
                by_cases hm : k ∈ e.ks.take i
                · exact .inl ⟨hm, by rw [if_pos hm]; rfl⟩
                · exact .inr ⟨hm, by rw [if_neg hm], by rw [if_neg hm]; rfl⟩)
              have hdI : (0 : Int) ≤ (f k).getD 0 ∧ (f k).getD 0 ≤ 1 := by
                rcases HDV.out with ⟨_, h⟩ | ⟨_, _, h⟩ <;> omega
              clear hks h4 el hgt
              generalize hdq : (f k).getD 0 = d at *
              go_upto_region 15 with (at_mapUpdate; go_loud (refine wpList_mapUpdate_own _ rfl (.tmp 51) (.tmp 52) (.tmp 54) 72 rfl 3 3 (int_keyed Tryz.underlying3) Tryz.underlying72 heldP mb i D' rfl HOK.out hvl (.int .i64 k) (.int .i64 (d + 1)) (.int .i64 k) rfl (by simp [go_sem]) (keyOf_int_mk Tryz.underlying3 (lit_wf hki)) _ [] rfl ?_); intro w5 hown5 hgr5)
              have hs5 := hgr5.size
              have hrg := ranges_lt HRK.out
              have rr : ∀ k, k < wr.heap.size → k ≠ mb → w5.row k = wr.row k := fun k hk hn => World.row_grow hgr5 hk (fun h => by injection h with h; exact hn h)
              have hmbw : L.mb < w.heap.size := HLT.out L.mb (.inr (.inl rfl))
              have hgw5 : w0.grows w5 := World.grows.grown hgk hgr5 (fun k hk => by cases hk; omega)
              have HT5 := Lib.hid (HTK.out.keep (W := w5) fun k hk hl => rr k hl (by have := HLT.out k hk; omega))
              have HR5 := Lib.hid (ranges_row HRK.out (rr L.mb hrg.1 (by omega)) (rr w.heap.size hrg.2 (by omega)))
              have hlm5 := HMK.out.look_put hki hown5
              have hlk5 := HT5.out.look k hki
              unfold mvOf at hlk5
              have hx5 := HT5.out.head
              have zx5 := row_sz' hx5
              have HPUT := Lib.hid (fun (hn : f k = none) => HMK.out.put hn hown5)
              clear rr hrg hown5 hgr5 hlm hlm' c0 zg HOK HMK HRK HTK
              rcases hkat : M.at k with _ | f'
              · have HNJ := Lib.hid (HNK.out fun hok => by
                  obtain ⟨y, hy, h1, _⟩ := hok.2.2 k hkm
                  exact findE_none hkat y hy h1)
                rw [show Dm.at ⟨c8, M.next, M.els⟩ k = none from hkat] at hlk5
                simp only at hlk5
                clear hkat
                go_wp2_with fail
                go_ret
                exact ⟨false, rfl, hgw5, ⟨fun hh => (nomatch hh), fun hj => absurd hj HNJ.out⟩, c8, HT5.out, fun hh => (nomatch hh)⟩
              · obtain ⟨hf', hfk⟩ := findE_some hkat
                rw [show Dm.at ⟨c8, M.next, M.els⟩ k = some f' from hkat] at hlk5
                simp only at hlk5
                have hrow5 := (HT5.out.els f' hf').1
                unfold elC at hrow5
                rw [hfk] at hrow5
                have zr5 := row_sz' hrow5
                clear hkat
                by_cases hfp : f'.p = e.id
                · rw [hfp] at hrow5
                  rcases HDV.out with ⟨hm, hd⟩ | ⟨hm, hfn, hd⟩
                  · have HNJ := Lib.hid (HNK.out (HDUP.out hm))
                    have hd2 : (1 : Int) < d + 1 := by omega
                    clear hdq
                    go_wp2_with fail
                    go_ret
                    exact ⟨false, rfl, hgw5, ⟨fun hh => (nomatch hh), fun hj => absurd hj HNJ.out⟩, c8, HT5.out, fun hh => (nomatch hh)⟩
                  · have hd2 : ¬ (1 : Int) < d + 1 := by omega
                    have HM5 := Lib.hid (HPUT.out hfn)
                    have HF5 := Lib.hid (show (∀ x, (if x = k then some (d + 1) else f x) = if x ∈ e.ks.take (i + 1) then some 1 else none) ∧ (e.ks.take (i + 1)).Nodup ∧ ∀ k ∈ e.ks.take (i + 1), ∃ f' ∈ M.els, f'.id = k ∧ f'.p = e.id from by
                      rw [HTKE.out]
                      refine ⟨fun x => ?_, ?_, fun y hy => ?_⟩
                      · rw [HF.out.1, hd]
                        by_cases hx : x = k <;> simp [hx]
                      · rw [List.nodup_append]
                        exact ⟨HF.out.2.1, by simp, fun a ha b hb hab => by simp at hb; subst hb; subst hab; exact hm ha⟩
                      · rcases List.mem_append.1 hy with hy | hy
                        · exact HF.out.2.2 y hy
                        · simp at hy; subst hy; exact ⟨f', hf', hfk, hfp⟩)
                    clear hdq hfn
                    go_wp2_with fail
                    go_roundg (e.ks.length - (i + 1))
                    case measure => omega
                    case rel => exact ⟨i + 1, _, _, Lib.hid ⟨by omega, by omega⟩, by go_num, hgw5, HT5, HR5, HM5, HF5⟩
                · have HNJ := Lib.hid (HNK.out fun hok => by
                    obtain ⟨y, hy, h1, h2⟩ := hok.2.2 k hkm
                    obtain rfl := ids_inj HT.out.up hy hf' (h1.trans hfk.symm)
                    exact hfp h2)
                  have hfp2 : (f'.p == e.id) = false := by simpa using hfp
                  clear hdq
                  go_wp2_with fail
                  go_ret
                  exact ⟨false, rfl, hgw5, ⟨fun hh => (nomatch hh), fun hj => absurd hj HNJ.out⟩, c8, HT5.out, fun hh => (nomatch hh)⟩
            · have iI : ¬ (i : Int) < (e.ks.length : Int) := by omega
              have hok : okE M e := ⟨HPO.out, by have := HF.out.2.1; rwa [List.take_of_length_le (by omega)] at this, fun k hk => HF.out.2.2 k (by rw [List.take_of_length_le (by omega)]; exact hk)⟩
              have hrow5 := (HTK.out.els e HE.out).1
              have zr5 := row_sz' hrow5
              unfold elC at hrow5
              rw [HEK.out] at hrow5
              have hq := HQ.out
              have HV5 := Lib.hid (HV2.out hok)
              have hkl := okE_few hok
              have hvn : vs.length + 1 ≤ M.els.length := by
                have h1 := nodup_len (l := vs ++ [e.id]) (m := M.els.map El.id) HV5.out.1 fun x hx => by
                  obtain ⟨e', he', rfl, _⟩ := HV5.out.2 x hx
                  exact List.mem_map.2 ⟨e', he', rfl⟩
                simp at h1; omega
              have HL5 := Lib.hid (show ∀ i, (left (.int .i64 i) && !(Lit.int .i64 i).sameKey (.int .i64 e.id)) = true ↔ ((M.at i).isSome = true ∧ i ∉ vs ++ [e.id]) from fun i => by
                rw [Bool.and_eq_true, HL.out i]
                by_cases hi : i = e.id
                · subst hi; simp [Lit.sameKey]
                · simp [Lit.sameKey, hi])
              have HK5 := Lib.hid (show kn + (e.ks.length : Int) = (kidsN M (vs ++ [e.id]) : Nat) by
                rw [kidsN_app, HKN.out]; simp [kidsN, kidsOf_atU HT.out.up HE.out])
              have HTCR := Lib.hid (And.intro HTK.out HCR9.out)
              clear hok
              go_wp2_with fail
              go_roundg (M.els.length - (vs.length + 1))
              case measure => omega
              case rel => exact ⟨vs ++ [e.id], _, cnt', _, _, c8, Lib.hid (by simp; omega), HV5, HRT8, HK5, by go_num, by go_num, hgk, HTCR, HRK, HL5⟩
end Go.Proofs.YtdbddnkjiehaiaaGreat

/- WALKS over dom and jalousieref8: depth, Depth, Root, Below, Order: of any elements whose kids and parents fit below a root. -/
namespace Go
open Go.RowKit
/-- how deep each stands -/
structure Dep0 (M : Dm) (r : Int) (dep : Int → Nat) : Prop where
  root : dep r = 1
  kid : ∀ e ∈ M.els, e.id ≠ r → dep e.id = dep e.p + 1
  pos : ∀ e ∈ M.els, 1 ≤ dep e.id
  top : ∀ e ∈ M.els, dep e.id ≤ 256
  par : ∀ e ∈ M.els, e.id ≠ r → ∃ f ∈ M.els, f.id = e.p ∧ e.id ∈ f.ks
theorem Shp0.dep {M : Dm} {r : Int} (hs : Shp0 M r) (hl : (M.below 256 r).length = M.els.length) : ∃ dep, Dep0 M r dep := by
  classical
  obtain ⟨h1, h2⟩ := hs.whole hl
  have hd : ∀ x p, Pth M r x p → (if h : ∃ p, Pth M r x p then (Classical.choose h).length else 0) = p.length := fun x p hp => by
    rw [dif_pos ⟨p, hp⟩]
    rw [Pth.uniq hs.up (Classical.choose_spec (⟨p, hp⟩ : ∃ p, Pth M r x p)) hp]
  refine ⟨fun x => if h : ∃ p, Pth M r x p then (Classical.choose h).length else 0, hd r [r] .root, fun e he hne => ?_, fun e he => ?_, fun e he => ?_, h2⟩
  · obtain ⟨p, hp⟩ := h1 e he
    rcases hp.inv with ⟨h3, _⟩ | ⟨f, hf, h3, _, q, h4, h5⟩
    · exact absurd h3 hne
    · obtain rfl := ids_inj hs.up hf he h3
      show dite _ _ _ = dite _ _ _ + 1
      rw [hd _ _ hp, hd _ _ h5, h4]; rfl
  · obtain ⟨p, hp⟩ := h1 e he
    show 1 ≤ dite _ _ _
    rw [hd _ _ hp]; exact hp.pos
  · obtain ⟨p, hp⟩ := h1 e he
    show dite _ _ _ ≤ 256
    rw [hd _ _ hp]
    exact Nat.le_trans (hp.len hs) hs.few
theorem shp_ks {M : Dm} {r : Int} (hs : Shp0 M r) {e : El} (he : e ∈ M.els) : e.ks.length ≤ 256 := by
  have := nodup_len (m := M.els.map El.id) (hs.once e he) fun k hk => by
    obtain ⟨f, hf, h1, _⟩ := hs.kid e he k hk
    exact List.mem_map.2 ⟨f, hf, h1⟩
  have := hs.few
  simp at *; omega
end Go
namespace Go.Proofs.YtdbddnkjiehaiaaGreat
open Go.Maps Go.RowKit Go.Sort

set_option maxRecDepth 100000 in
set_option maxHeartbeats 4000000 in
theorem domDepthG_any (w : World) (L : Ly) (M : Dm) (h : RawAt w L M) {dep : Int → Nat} (hp : Dep0 M M.root dep) (e : El) (he : e ∈ M.els) : Calls Tryz.prog 13 #[.pointer (some ⟨L.t, 0, none⟩), .int .i64 e.id] w fun r w' => r = .returned (.int .i64 (dep e.id)) ∧ w' = w := by
  have hx := h.head
  have zx := row_sz' hx
  have HT := Lib.hid h
  have HP := Lib.hid hp
  have hid := (h.elWf e he).1
  clear h hp
  go_enter Tryz.func13, Tryz.ntmps13
  go_wp2_with fail
  go_loopg [1, 5] (dep e.id) (fun gn v1 v5 wj => ∃ f, Hid (f ∈ M.els ∧ gn = dep f.id) ∧ v1 = .int .i64 f.id ∧ wj = w ∧ ∃ k : Nat, v5 = .int .i64 k ∧ Hid (k + dep f.id = dep e.id + 1 ∧ k ≤ 256))
  case atStart => exact ⟨e, Lib.hid ⟨he, rfl⟩, by go_num, rfl, 1, by go_num, Lib.hid ⟨by omega, by omega⟩⟩
  case round =>
    obtain ⟨f, HF, rfl, rfl, k, rfl, HK⟩ := hrel
    obtain ⟨hf, _⟩ := HF.out
    obtain ⟨k1, k2⟩ := HK.out
    by_cases hr : f.id = M.root
    · have e1 : dep f.id = 1 := by rw [hr]; exact HP.out.root
      have e2 : k = dep e.id := by omega
      subst e2
      go_wp2_with fail
      go_ret
      exact ⟨rfl, rfl⟩
    · have e1 := HP.out.kid f hf hr
      obtain ⟨g, hg, hgp, _⟩ := HP.out.par f hf hr
      have hat : M.at f.id = some f := findE_of HT.out.up hf
      have hlk := HT.out.look f.id (HT.out.elWf f hf).1
      unfold mvOf at hlk
      rw [hat] at hlk
      simp only at hlk
      have hrow := (HT.out.els f hf).1
      have zr := row_sz' hrow
      have e3 := HP.out.top e he
      have hb : ((f.id == M.root) = false) := by simpa using hr
      go_wp2_with fail
      go_roundg (dep g.id)
      case rel => exact ⟨g, Lib.hid ⟨hg, rfl⟩, by rw [hgp], rfl, k + 1, by go_num, Lib.hid ⟨by rw [hgp]; omega, by have : 1 ≤ dep f.p := (by rw [← hgp]; have := HP.out.root; by_cases hq : g.id = M.root; rw [hq]; omega; have := HP.out.kid g hg hq; omega); omega⟩⟩
      case measure => rw [hgp]; omega

set_option maxRecDepth 100000 in
set_option maxHeartbeats 8000000 in
theorem refDepthG_any (w : World) (t : Nat) (v : Value) (M : Dm) (h : RefR w t v M) {r : Int} (hG : Shp0 M r) {dep : Int → Nat} (hD : Dep0 M r dep) (e : El) (he : e ∈ M.els) : Calls Tryz.prog 19 #[.pointer (some ⟨t, 0, none⟩), .int .i64 e.id] w (Gives w (.int .i64 (dep e.id))) := by
  have HAT := Lib.hid (fun (W : World) (hW : w.grows W) (id : Int) => refAt_any W t v M (h.grows hW) hG.few id)
  obtain ⟨a0, c0, rfl, _⟩ := h.els.len
  have HR := Lib.hid h; have HGD := Lib.hid hG
  have HD := Lib.hid hD
  obtain ⟨k0, p0, q0, r0⟩ := posE_at hG.up he
  have hl := hG.few
  have hde := hD.top e he
  have HE := Lib.hid he
  clear h hG hD he
  go_enter Tryz.func19, Tryz.ntmps19
  go_upto_region 3 with (go_at_call 43; go_loud ((with_reducible refine (HAT.out _ (by repeat (with_reducible first | assumption | exact grA | apply grB | apply grC | apply grD | refine grE ?_ (by omega) _ | refine grF ?_ (by omega) _ _)) _).mono ?_); rintro r w1 ⟨rfl, hg1⟩))
  go_loopg [5, 6] (dep e.id) (fun gn v5 v6 wj => ∃ (d : Nat) (k : Int), Hid (gn + d = dep e.id ∧ ((∃ f ∈ M.els, k = posE M.els f.id ∧ d + dep f.id = dep e.id) ∨ (k = -1 ∧ d = dep e.id))) ∧ v5 = .int .i64 d ∧ v6 = .int .i64 k ∧ w.grows wj)
  case atStart => exact ⟨0, _, Lib.hid ⟨by omega, .inl ⟨e, HE.out, rfl, by omega⟩⟩, by go_num, by go_num, (by repeat (with_reducible first | assumption | exact grA | apply grB | apply grC | apply grD | refine grE ?_ (by omega) _ | refine grF ?_ (by omega) _ _))⟩
  case round =>
    obtain ⟨d, k, HQ, rfl, rfl, hgj⟩ := hrel
    obtain ⟨j1, hq⟩ := HQ.out
    have hrow := (HR.out.grows hgj).head
    have zr := row_sz' hrow
    rcases hq with ⟨f, hf, rfl, hdf⟩ | ⟨rfl, rfl⟩
    · obtain ⟨kf, p1, p2, p3⟩ := posE_at HGD.out.up hf
      have i1 : (kf : Int) < (M.els.length : Int) := by omega
      rcases (els_get HR.out.els).2 with h0 | ⟨g1, o1, rfl, e1⟩
      · rw [h0] at p2; simp at p2
      obtain ⟨cs, l1, k1, ka, aa, kc, ac, rfl, _, _⟩ := e1 kf _ p3
      have k1 := k1.grows hgj
      have z1 := lt_sz k1.lt
      have c1 := k1.cell (j := 1) rfl
      rw [World.cell?_row] at c1
      have HP := Lib.hid p1
      rw [p1] at *
      clear e1 k1 p3 HQ
      have hdp : 1 ≤ dep f.id := HD.out.pos f hf
      have hnew : Hid (((∃ f' ∈ M.els, posE M.els f.p = posE M.els f'.id ∧ (d + 1) + dep f'.id = dep e.id) ∨ (posE M.els f.p = -1 ∧ d + 1 = dep e.id))) := by
        by_cases hr : f.id = r
        · obtain ⟨y0, hr1, hr2, hr3⟩ := HGD.out.root
          obtain rfl := ids_inj HGD.out.up hf hr1 (hr.trans hr2.symm)
          refine Lib.hid (.inr ⟨?_, ?_⟩)
          · rw [hr3]; exact posE_none fun y hy => by have := HGD.out.low y hy; omega
          · have := HD.out.root; rw [← hr2] at this; omega
        · obtain ⟨g, hg, hgp, _⟩ := HD.out.par f hf hr
          have := HD.out.kid f hf hr
          exact Lib.hid (.inl ⟨g, hg, by rw [hgp], by rw [hgp]; omega⟩)
      go_wp2_with (go_at_call 43; go_loud ((with_reducible refine (HAT.out _ (by repeat (with_reducible first | assumption | exact grA | apply grB | apply grC | apply grD | refine grE ?_ (by omega) _ | refine grF ?_ (by omega) _ _)) _).mono ?_); rintro r w2 ⟨rfl, hg2⟩))
      go_roundg (dep e.id - (d + 1))
      case measure => omega
      case rel => exact ⟨d + 1, _, Lib.hid ⟨by omega, hnew.out⟩, by go_num, by go_num, hgj.trans hg2⟩
    · go_wp2_with fail
      go_ret
      exact ⟨rfl, hgj⟩


set_option maxRecDepth 100000 in
set_option maxHeartbeats 8000000 in
theorem refRootG_any (w : World) (t : Nat) (v : Value) (M : Dm) (h : RefR w t v M) {rr : Int} (hfew : M.els.length ≤ 256) (hroot : ∃ e ∈ M.els, e.id = rr ∧ e.p = -1) (hone : ∀ e ∈ M.els, e.p = -1 → e.id = rr) : Calls Tryz.prog 25 #[.pointer (some ⟨t, 0, none⟩)] w (Gives w (.int .i64 rr)) := by
  obtain ⟨a0, c0, rfl, _⟩ := h.els.len
  have hx := h.head
  have zx := row_sz' hx
  have HG := Lib.hid (els_get h.els).2
  obtain ⟨r0, hr0, hr1, hr2⟩ := hroot
  have HO := Lib.hid hone; have HR := Lib.hid hr0; have HP := Lib.hid hr2
  clear h hone hr0 hr2
  generalize M.els = l at *
  generalize M.next = nx at *
  subst hr1
  go_enter Tryz.func25, Tryz.ntmps25
  go_wp2_with fail
  go_loopg [10] l.length (fun gn v10 wj => ∃ i : Nat, Hid (gn + i = l.length ∧ i ≤ l.length) ∧ v10 = .int .i64 i ∧ w.grows wj ∧ Hid (∀ j f, j < i → l[j]? = some f → f.p ≠ -1))
  case atStart => exact ⟨0, Lib.hid ⟨by simp, Nat.zero_le _⟩, by go_num, (by repeat (with_reducible first | assumption | exact grA | apply grB | apply grC | apply grD | refine grE ?_ (by omega) _ | refine grF ?_ (by omega) _ _)), Lib.hid fun j f hj => by omega⟩
  case round =>
    obtain ⟨i, HQ, rfl, hgj, HN⟩ := hrel
    obtain ⟨j1, j2⟩ := HQ.out
    have hlt : i < l.length := by
      apply Classical.byContradiction
      intro hn
      obtain ⟨j, hj, he⟩ := List.mem_iff_getElem.1 HR.out
      exact HN.out j _ (by omega) (List.getElem?_eq_getElem hj) (by rw [he]; exact HP.out)
    have i1 : (i : Int) < (l.length : Int) := by omega
    rcases HG.out with h0 | ⟨p1, o1, rfl, e1⟩
    · rw [h0] at hlt; simp at hlt
    have hgt := List.getElem?_eq_getElem hlt
    have hone := Lib.hid (HO.out _ (List.getElem_mem hlt))
    obtain ⟨cs, l1, k1, ka, aa, kc, ac, rfl, _, _⟩ := e1 i _ hgt
    have k1 := k1.grows hgj
    have HST := Lib.hid (fun (hne : l[i].p ≠ -1) => (show ∀ j f, j < i + 1 → l[j]? = some f → f.p ≠ -1 from fun j f hj hf => by
      by_cases hji : j = i
      · subst hji; rw [hgt] at hf; cases hf; exact hne
      · exact HN.out j f (by omega) hf))
    generalize l[i] = x at *
    have z1 := lt_sz k1.lt
    obtain ⟨u1, u2⟩ := k1
    rw [l1] at u1 u2
    clear e1 HG hgt hx zx
    by_cases hp : x.p = -1
    · have hri := hone.out hp
      have hpb : (x.p == -1) = true := by simpa using hp
      go_wp2_with fail
      go_ret
      exact ⟨by first | rfl | (rw [hri]; rfl), (by repeat (with_reducible first | assumption | exact grA | apply grB | apply grC | apply grD | refine grE ?_ (by omega) _ | refine grF ?_ (by omega) _ _))⟩
    · have hst := Lib.hid (HST.out hp)
      have hpb : (x.p == -1) = false := by simpa using hp
      go_wp2_with fail
      go_roundg (l.length - (i + 1))
      case measure => omega
      case rel => exact ⟨i + 1, Lib.hid ⟨by omega, by omega⟩, by go_num, (by repeat (with_reducible first | assumption | exact grA | apply grB | apply grC | apply grD | refine grE ?_ (by omega) _ | refine grF ?_ (by omega) _ _)), hst⟩
set_option maxRecDepth 100000 in
set_option maxHeartbeats 8000000 in
theorem refBelow1G_any {M : Dm} {r : Int} (hG : Shp0 M r) (n : Nat)
    (ih : ∀ f ∈ M.els, Rch M r n f → ∀ (w : World) (t : Nat) (v : Value), RefR w t v M → Calls Tryz.prog 50 #[.pointer (some ⟨t, 0, none⟩), .int .i64 f.id] w fun r w' => ∃ v', r = .returned v' ∧ w.grows w' ∧ w'.ownsRow w.heap.size 3 1 v' (M.below n f.id).length ((M.below n f.id).map (Value.int .i64)))
    (e : El) (he : e ∈ M.els) (w : World) (t : Nat) (v : Value) (h : RefR w t v M) (hkl : e.ks.length ≤ 256) (hrch : Rch M r (n + 1) e) (hkd : ∀ k ∈ e.ks, ∃ f ∈ M.els, f.id = k ∧ Rch M r n f) :
    Calls Tryz.prog 50 #[.pointer (some ⟨t, 0, none⟩), .int .i64 e.id] w fun r w' => ∃ v', r = .returned v' ∧ w.grows w' ∧ w'.ownsRow w.heap.size 3 1 v' (M.below (n + 1) e.id).length ((M.below (n + 1) e.id).map (Value.int .i64)) := by
  have HAT := Lib.hid (fun (W : World) (hW : w.grows W) (id : Int) => refAt_any W t v M (h.grows hW) hG.few id)
  obtain ⟨a0, c0, rfl, _⟩ := h.els.len
  obtain ⟨kf, p1, p2, p3⟩ := posE_at hG.up he
  have hfew := hG.few
  have i1 : (kf : Int) < (M.els.length : Int) := by omega
  rcases (els_get h.els).2 with h0 | ⟨g1, o1, rfl, e1⟩
  · rw [h0] at p2; simp at p2
  obtain ⟨cs, l1, k1, ka, aa, kc, ac, rfl, hks, _⟩ := e1 kf _ p3
  have HK := Lib.hid (ints_get (SlAt.keep hks (S' := fun _ => True) (fun g _ _ => ⟨rfl, trivial⟩) fun _ _ _ h => h)).2
  have hbl : (M.below (n + 1) e.id).length ≤ 256 := Nat.le_trans (hrch.few hG he) hfew
  have hbe := below_atU hG.up he n
  have HBE := Lib.hid hbe
  have HR := Lib.hid h; have HGD := Lib.hid hG; have HI := Lib.hid ih; have HP := Lib.hid p1; have HE := Lib.hid he; have HKD := Lib.hid hkd
  clear hG ih hkd e1 p3 hks hbe hrch
  rw [HP.out] at *
  clear h
  go_enter Tryz.func50, Tryz.ntmps50
  go_upto_region 4 with (go_at_call 43; go_loud ((with_reducible refine (HAT.out _ (by repeat (with_reducible first | assumption | exact grA | apply grB | apply grC | apply grD | refine grE ?_ (by omega) _ | refine grF ?_ (by omega) _ _)) _).mono ?_); rw [p1]; rintro r w1 ⟨rfl, hg1⟩))
  have hg2 : w.grows (w1.alloc (.cells #[.int .i64 e.id] 3)) := World.grows.alloc hg1 _
  have ho2 : (w1.alloc (.cells #[.int .i64 e.id] 3)).ownsRow w.heap.size 3 1 (.slice (some ⟨w1.heap.size, 0, none⟩) 1 1) 1 [.int .i64 e.id] := ⟨rfl, .inr ⟨w1.heap.size, 1, #[.int .i64 e.id], rfl, hg1.below.size, by show (w1.alloc _).row _ = _; simp [go_sem], Nat.le_refl _, by simp only [maxLen]; omega, rfl, rfl⟩⟩
  go_upto_region 5 with fail
  generalize (w1.alloc (.cells #[.int .i64 e.id] 3)) = w2 at *
  have hx2 := (HR.out.grows hg2).head
  have zx2 := row_sz' hx2
  have k2 := k1.grows hg2
  have z2 := lt_sz k2.lt
  have c2 := k2.cell (j := 3) rfl
  rw [World.cell?_row] at c2
  have HO2 := Lib.hid ho2
  clear ho2 k1 k2 i1
  generalize (some ⟨w1.heap.size, 0, none⟩ : Option Addr) = al at *
  go_upto_region 6 with fail
  go_loopg [6, 25] e.ks.length (fun gn v6 v25 wj => ∃ (i : Nat), Hid (gn + i = e.ks.length ∧ i ≤ e.ks.length) ∧ v25 = .int .i64 i ∧ w.grows wj ∧ Hid (wj.ownsRow w.heap.size 3 1 v6 (e.id :: (e.ks.take i).flatMap (M.below n)).length ((e.id :: (e.ks.take i).flatMap (M.below n)).map (Value.int .i64))))
  case atStart => exact ⟨0, Lib.hid ⟨by simp, Nat.zero_le _⟩, by go_num, hg2, Lib.hid (by simpa using HO2.out)⟩
  case round =>
    obtain ⟨i, HQ, rfl, hgj, HV⟩ := hrel
    obtain ⟨j1, j2⟩ := HQ.out
    by_cases hlt : i < e.ks.length
    · have i1 : (i : Int) < (e.ks.length : Int) := by omega
      rcases HK.out with h0 | ⟨p3, o3, rfl, e3⟩
      · rw [h0] at hlt; simp at hlt
      have hgt := List.getElem?_eq_getElem hlt
      obtain ⟨f, hf, hfk, hfd⟩ := HKD.out _ (List.getElem_mem hlt)
      have hgt' : e.ks[i]? = some f.id := by rw [hgt, hfk]
      have k3 := (e3 i _ hgt').grows hgj
      have z3 := lt_sz k3.lt
      have c3 := k3.cell (j := 0) rfl
      rw [World.cell?_row, Nat.add_zero, Nat.mul_one] at c3
      have HC := Lib.hid (HI.out f hf hfd wr t _ (HR.out.grows hgj))
      have HTK := Lib.hid (show (e.ks.take (i + 1)).flatMap (M.below n) = (e.ks.take i).flatMap (M.below n) ++ M.below n f.id by rw [List.take_add_one, hgt', List.flatMap_append]; simp)
      have hln : (e.id :: (e.ks.take i).flatMap (M.below n)).length + (M.below n f.id).length ≤ 256 := by
        have h1 : e.ks.flatMap (M.below n) = (e.ks.take (i + 1)).flatMap (M.below n) ++ (e.ks.drop (i + 1)).flatMap (M.below n) := by rw [← List.flatMap_append, List.take_append_drop]
        have h2 := hbl
        rw [HBE.out, h1, HTK.out] at h2
        simp only [List.length_cons, List.length_append] at h2 ⊢
        omega
      obtain ⟨ll, hll⟩ : ∃ ll, ll = e.id :: (e.ks.take i).flatMap (M.below n) := ⟨_, rfl⟩
      rw [← hll] at HV hln
      have HLL := Lib.hid hll
      obtain ⟨a6, c6, rfl⟩ := own_slice HV.out
      have hvo := HV.out
      clear e3 k3 hgt hgt' hfk hll HV hx2 zx2 c2 z2
      generalize hbq : M.below n f.id = bq at *
      go_wp2_with (first
        | (go_at_call 50; go_loud ((with_reducible refine HC.out.mono ?_); rintro r w3 ⟨v3, rfl, hg3, hv3⟩); obtain ⟨a3, c3', rfl⟩ := own_slice hv3; (have HV3 := Lib.hid (IntsAt_own hv3)); (have hg03 := hgj.trans hg3); (have s3 := hg3.below.size); (have s03 := hgj.below.size); clear hv3)
        | (at_builtin; refine wpList_appS w (w.heap.size) rfl (.tmp 29) (.tmp 32) _ rfl 3 (.int .i64 0) 1 8 Tryz.underlying46 (by kernel_rfl) rfl (by omega) (by omega) _ ll.length _ rfl (hvo.grows hg3) _ bq.length _ (bq.map (Value.int .i64)) rfl (by simp) (int_news HV3.out).2 (int_one _) (by omega) (by repeat (with_reducible first | assumption | exact grA | apply grB | apply grC | apply grD | refine grE ?_ (by omega) _ | refine grF ?_ (by omega) _ _)) (by omega) (by omega) ?_; intro v' w' hg' HO' HR' HG' HA'))
      have HN := Lib.hid HO'.out
      rw [← List.map_append, ← List.length_append, HLL.out, List.cons_append, ← HTK.out] at HN
      clear HO' HR' HG' HA'
      go_roundg (e.ks.length - (i + 1))
      case measure => omega
      case rel => exact ⟨i + 1, Lib.hid ⟨by omega, by omega⟩, by go_num, hg', HN⟩
    · have i1 : ¬ (i : Int) < (e.ks.length : Int) := by omega
      obtain rfl : i = e.ks.length := by omega
      rw [List.take_length, ← HBE.out] at HV
      go_wp2_with fail
      go_ret
      exact ⟨_, rfl, hgj, HV.out⟩
theorem refBelowG_any {M : Dm} {r : Int} (hs : Shp0 M r) : ∀ (n : Nat), ∀ e ∈ M.els, Rch M r n e → ∀ (w : World) (t : Nat) (v : Value), RefR w t v M → Calls Tryz.prog 50 #[.pointer (some ⟨t, 0, none⟩), .int .i64 e.id] w fun r w' => ∃ v', r = .returned v' ∧ w.grows w' ∧ w'.ownsRow w.heap.size 3 1 v' (M.below n e.id).length ((M.below n e.id).map (Value.int .i64))
  | 0, e, he, hd, _, _, _, _ => (hd.none hs).elim
  | n + 1, e, he, hd, w, t, v, h => refBelow1G_any hs n (refBelowG_any hs n) e he w t v h (shp_ks hs he) hd (fun k hk => by
    obtain ⟨f, hf, h4, _, h5⟩ := hd.kids hs he hk
    exact ⟨f, hf, h4, h5⟩)

set_option maxRecDepth 100000 in
set_option maxHeartbeats 8000000 in
theorem refOrderG_any (w : World) (t : Nat) (v : Value) (M : Dm) (h : RefR w t v M) {rr : Int} (hs : Shp0 M rr) (hone : ∀ e ∈ M.els, e.p = -1 → e.id = rr) : Calls Tryz.prog 30 #[.pointer (some ⟨t, 0, none⟩)] w fun r w' => ∃ v', r = .returned v' ∧ w.grows w' ∧ w'.ownsRow w.heap.size 3 1 v' (M.below 256 rr).length ((M.below 256 rr).map (Value.int .i64)) := by
  obtain ⟨e, he, h1, _⟩ := hs.root
  have HR := Lib.hid (refRootG_any w t v M h hs.few hs.root hone)
  have HB := Lib.hid (fun (W : World) (hW : w.grows W) => h1 ▸ refBelowG_any hs 256 e he (Rch.ofRoot h1) W t v (h.grows hW))
  clear h hs
  go_enter Tryz.func30, Tryz.ntmps30
  go_wp2_with (first
    | (go_at_call 50; go_loud ((with_reducible refine (HB.out _ hg1).mono ?_); rintro r w2 ⟨v2, rfl, hg2, hv2⟩))
    | (go_at_call 25; go_loud ((with_reducible refine HR.out.mono ?_); rintro r w1 ⟨rfl, hg1⟩); (have s1 := hg1.below.size)))
  go_ret
  exact ⟨_, rfl, hg1.trans hg2, World.ownsRow.mono_base s1 hv2⟩
end Go.Proofs.YtdbddnkjiehaiaaGreat

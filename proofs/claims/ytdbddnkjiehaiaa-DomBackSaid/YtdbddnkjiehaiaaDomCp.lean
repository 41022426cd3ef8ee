/- WALK over dom: Copy. No condition but that a tree stands in memory. -/
import Derived.Test.YtdbddnkjiehaiaaMl
import Derived.Maps.RangeWalk
set_option linter.unusedSimpArgs false
set_option linter.unusedVariables false
namespace Go
open Go.RowKit Go.Maps
theorem ranges_row {H : Type} {P : Program} {k : TypeId} {R : Value → Option (DataW H × List MemPlace)} {w W : World} {b r n : Nat} {D : DataW H} {left : Lit → Bool} {cnt : Nat} (h : w.ranges P k R b r n D left cnt) (h1 : W.row b = w.row b) (h2 : W.row r = w.row r) : W.ranges P k R b r n D left cnt := by
  obtain ⟨es, clock, since, seen, c0, q1, q2, q3, q4, q5, rest⟩ := h
  exact ⟨es, clock, since, seen, c0, h1.trans q1, q2, q3, q4, h2.trans q5, rest⟩
theorem ranges_lt {H : Type} {P : Program} {k : TypeId} {R : Value → Option (DataW H × List MemPlace)} {w : World} {b r n : Nat} {D : DataW H} {left : Lit → Bool} {cnt : Nat} (h : w.ranges P k R b r n D left cnt) : b < w.heap.size ∧ r < w.heap.size := by
  obtain ⟨es, clock, since, seen, c0, q1, q2, q3, q4, q5, rest⟩ := h
  exact ⟨(Array.getElem?_eq_some_iff.1 q1).1, (Array.getElem?_eq_some_iff.1 q5).1⟩
end Go
namespace Go.Proofs.Ytdbddnkjiehaiaa
open Go.Maps Go.RowKit Go.Sort
/-- the copy while it is made: of the numbers vs -/
structure CpSt (w wj : World) (M : Dm) (ot ob r : Nat) (L : Ly) (vs : List Int) (D : DataW Value) : Prop where
  t : L.t = ot
  mb : L.mb = ob
  gr : w.grows wj
  head : wj.row ot = some (.cells #[.map (some ob), .int .i64 M.root, .int .i64 M.next] 81)
  map : wj.ownsMap Try.prog 3 heldP ob vs.length D
  has : ∀ i, Maps.has D (.int .i64 i) = decide (i ∈ vs)
  at1 : ∀ i, i ∈ vs → D.atKey (.int .i64 i) nilP = .held (.pointer (some ⟨L.bl i, 0, none⟩))
  at0 : ∀ i, i ∉ vs → D.atKey (.int .i64 i) nilP = .held (.pointer none)
  sz : Maps.size D = vs.length
  nd : vs.Nodup
  sub : ∀ x ∈ vs, ∃ e ∈ M.els, e.id = x
  els : ∀ e ∈ M.els, e.id ∈ vs → ElAt wj L e
  tt : L.tg ot = (-1, 0)
  tm : L.tg ob = (-1, 1)
  tg : ∀ e ∈ M.els, e.id ∈ vs → L.tg (L.bl e.id) = (e.id, 0) ∧ (∀ g, (L.kv e.id).ownBlock = some g → L.tg g = (e.id, 1)) ∧ ∀ g, (L.av e.id).ownBlock = some g → L.tg g = (e.id, 2)
  lot : w.heap.size ≤ ot
  lob : w.heap.size ≤ ob
  low : ∀ e ∈ M.els, e.id ∈ vs → r < L.bl e.id ∧ (∀ g, (L.kv e.id).ownBlock = some g → r < g) ∧ ∀ g, (L.av e.id).ownBlock = some g → r < g
  lr : w.heap.size ≤ r
  rl : r < wj.heap.size
  rot : r ≠ ot
theorem CpSt.lts {w wj : World} {M : Dm} {ot ob r : Nat} {L : Ly} {vs : List Int} {D : DataW Value} (h : CpSt w wj M ot ob r L vs D) {e : El} (he : e ∈ M.els) (hv : e.id ∈ vs) : L.bl e.id < wj.heap.size ∧ (∀ g, (L.kv e.id).ownBlock = some g → g < wj.heap.size) ∧ ∀ g, (L.av e.id).ownBlock = some g → g < wj.heap.size := by
  obtain ⟨q1, q2, q3⟩ := h.els e he hv
  exact ⟨(row_sz' q1).1, fun g hg => (q2.lt g hg).2, fun g hg => (q3.lt g hg).2⟩
/-- one element more -/
theorem CpSt.step {w wr w1 wC W5 : World} {M : Dm} {ot ob r nb : Nat} {L : Ly} {vs : List Int} {D : DataW Value} (h : CpSt w wr M ot ob r L vs D) {e : El} (he : e ∈ M.els) (hv : e.id ∉ vs) {ka aa : Option Addr} {kc ac : Nat} (hlowM : ∀ e ∈ M.els, 0 ≤ e.id) (hup : M.els.Pairwise fun a b => a.id < b.id)
    (hg5 : w.grows W5) (h1 : ∀ k, k < wr.heap.size → k ≠ ob → k ≠ r → W5.row k = wr.row k) (hobt : ob ≠ ot)
    (hs1 : wr.heap.size ≤ w1.heap.size) (hk : wC.ownsRow w1.heap.size 3 1 (.slice ka e.ks.length kc) e.ks.length (e.ks.map (Value.int .i64))) (ha : wC.ownsRow w1.heap.size 62 2 (.slice aa e.at'.length ac) e.at'.length (atC e.at')) (hd : ∀ g, (Value.slice ka e.ks.length kc).ownBlock = some g → (Value.slice aa e.at'.length ac).ownBlock ≠ some g)
    (hnb : wC.heap.size ≤ nb) (hC1 : w1.heap.size ≤ wC.heap.size) (hrC : ∀ k, w1.heap.size ≤ k → k < wC.heap.size → W5.row k = wC.row k)
    (hnr : W5.row nb = some (.cells (elO e ka aa kc ac).toArray 46))
    (hmap : W5.ownsMap Try.prog 3 heldP ob (vs.length + 1) (D.put (.int .i64 e.id) (.held (.pointer (some ⟨nb, 0, none⟩))))) :
    ∃ L', CpSt w W5 M ot ob r L' (vs ++ [e.id]) (D.put (.int .i64 e.id) (.held (.pointer (some ⟨nb, 0, none⟩)))) := by
  have hobl := h.map.lt
  have hotl := (row_sz' h.head).1
  have hk5 : W5.ownsRow w1.heap.size 3 1 (.slice ka e.ks.length kc) e.ks.length (e.ks.map (Value.int .i64)) := ownsRow_row hk fun g hg => hrC g (hk.lt g hg).1 (hk.lt g hg).2
  have ha5 : W5.ownsRow w1.heap.size 62 2 (.slice aa e.at'.length ac) e.at'.length (atC e.at') := ownsRow_row ha fun g hg => hrC g (ha.lt g hg).1 (ha.lt g hg).2
  have kb : ∀ g, (Value.slice ka e.ks.length kc).ownBlock = some g → wr.heap.size ≤ g ∧ g < nb := fun g hg => by have := hk.lt g hg; omega
  have ab : ∀ g, (Value.slice aa e.at'.length ac).ownBlock = some g → wr.heap.size ≤ g ∧ g < nb := fun g hg => by have := ha.lt g hg; omega
  have hew0 := hlowM e he
  have hrl := h.rl
  have hlr := h.lr
  have hnbl := (row_sz' hnr).1
  obtain ⟨L', hL'⟩ : ∃ L' : Ly, L' = { L with bl := fun j => if j = e.id then nb else L.bl j, kv := fun j => if j = e.id then .slice ka e.ks.length kc else L.kv j, av := fun j => if j = e.id then .slice aa e.at'.length ac else L.av j, tg := fun g => if g = nb then (e.id, 0) else if wr.heap.size ≤ g ∧ (Value.slice ka e.ks.length kc).ownBlock = some g then (e.id, 1) else if wr.heap.size ≤ g ∧ (Value.slice aa e.at'.length ac).ownBlock = some g then (e.id, 2) else L.tg g } := ⟨_, rfl⟩
  have b1 : L'.bl e.id = nb := by rw [hL']; exact if_pos rfl
  have b2 : L'.kv e.id = .slice ka e.ks.length kc := by rw [hL']; exact if_pos rfl
  have b3 : L'.av e.id = .slice aa e.at'.length ac := by rw [hL']; exact if_pos rfl
  have o1 : ∀ {j}, j ≠ e.id → L'.bl j = L.bl j := fun hj => by rw [hL']; exact if_neg hj
  have o2 : ∀ {j}, j ≠ e.id → L'.kv j = L.kv j := fun hj => by rw [hL']; exact if_neg hj
  have o3 : ∀ {j}, j ≠ e.id → L'.av j = L.av j := fun hj => by rw [hL']; exact if_neg hj
  have tgo : ∀ g, g < wr.heap.size → L'.tg g = L.tg g := fun g hg => by
    rw [hL']
    show (if g = nb then _ else if wr.heap.size ≤ g ∧ _ then _ else if wr.heap.size ≤ g ∧ _ then _ else L.tg g) = L.tg g
    rw [if_neg (by omega), if_neg (fun hh => by omega), if_neg (fun hh => by omega)]
  have tgn : L'.tg nb = (e.id, 0) := by rw [hL']; exact if_pos rfl
  have tgk : ∀ g, (Value.slice ka e.ks.length kc).ownBlock = some g → L'.tg g = (e.id, 1) := fun g hg => by
    rw [hL']
    show (if g = nb then _ else if wr.heap.size ≤ g ∧ _ then _ else _) = _
    rw [if_neg (by have := kb g hg; omega), if_pos ⟨(kb g hg).1, hg⟩]
  have tga : ∀ g, (Value.slice aa e.at'.length ac).ownBlock = some g → L'.tg g = (e.id, 2) := fun g hg => by
    rw [hL']
    show (if g = nb then _ else if wr.heap.size ≤ g ∧ _ then _ else if wr.heap.size ≤ g ∧ _ then _ else _) = _
    rw [if_neg (by have := ab g hg; omega), if_neg (fun hh => hd g hh.2 hg), if_pos ⟨(ab g hg).1, hg⟩]
  have memv : ∀ {x : Int}, x ∈ vs ++ [e.id] → x ≠ e.id → x ∈ vs := fun hx hne => by
    rcases List.mem_append.1 hx with hx | hx
    · exact hx
    · simp at hx; exact absurd hx hne
  have ntgo : L'.t = L.t := by rw [hL']
  have nmgo : L'.mb = L.mb := by rw [hL']
  refine ⟨L', ntgo.trans h.t, nmgo.trans h.mb, hg5, ?_, ?_, fun i => ?_, fun i hi => ?_, fun i hi => ?_, ?_, ?_, fun x hx => ?_, fun y hy hyv => ?_, ?_, ?_, fun y hy hyv => ?_, h.lot, h.lob, fun y hy hyv => ?_, h.lr, by omega, h.rot⟩
  · exact (h1 _ hotl (fun e => hobt e.symm) (fun e => h.rot e.symm)).trans h.head
  · rw [List.length_append]; exact hmap
  · by_cases hi : i = e.id
    · subst hi
      rw [has_put_same (h.map.tidy (int_keyed Try.underlying3)).isMap (by first | exact trivial | exact .inl ⟨_, rfl⟩ | simp [WideAt.IsKeyLit])]; simp
    · rw [has_put_other (fun x => hi (by injection x)), h.has]; simp [hi]
  · by_cases hie : i = e.id
    · subst hie
      rw [atKey_put_same (h.map.tidy (int_keyed Try.underlying3)).isMap (by first | exact trivial | exact .inl ⟨_, rfl⟩ | simp [WideAt.IsKeyLit]), b1]
    · rw [atKey_put_other (fun x => hie (by injection x)), h.at1 i (memv hi hie), o1 hie]
  · have hie : i ≠ e.id := fun hh => hi (by rw [hh]; simp)
    rw [atKey_put_other (fun x => hie (by injection x)), h.at0 i (fun hh => hi (by simp [hh]))]
  · rw [size_put (h.map.tidy (int_keyed Try.underlying3)), h.has, if_neg (by simpa using hv), h.sz]; simp
  · rw [List.nodup_append]
    exact ⟨h.nd, by simp, fun a ha b hb hab => by simp at hb; subst hb; subst hab; exact hv ha⟩
  · rcases List.mem_append.1 hx with hx | hx
    · exact h.sub x hx
    · simp at hx; exact ⟨e, he, hx.symm⟩
  · by_cases hye : y.id = e.id
    · obtain rfl := ids_inj hup hy he hye
      refine ⟨?_, by rw [b2]; exact World.ownsRow.mono_base (Nat.zero_le _) hk5, by rw [b3]; exact World.ownsRow.mono_base (Nat.zero_le _) ha5⟩
      rw [b1]
      show W5.row nb = some (.cells [_, _, _, L'.kv y.id, L'.av y.id, _, _, _, _, _, _].toArray _)
      rw [b2, b3]; exact hnr
    · have hyv' := memv hyv hye
      obtain ⟨q1, q2, q3⟩ := h.els y hy hyv'
      obtain ⟨l1, l2, l3⟩ := h.lts hy hyv'
      obtain ⟨c1, c2, c3⟩ := h.low y hy hyv'
      have hy0 := hlowM y hy
      obtain ⟨t1, t2, t3⟩ := h.tg y hy hyv'
      have nob : ∀ k n, L.tg k = (y.id, n) → k ≠ ob := fun k n hk hh => by
        rw [hh, h.tm] at hk; injection hk with hk _; omega
      refine ⟨?_, ?_, ?_⟩
      · rw [o1 hye]
        show W5.row (L.bl y.id) = some (.cells [_, _, _, L'.kv y.id, L'.av y.id, _, _, _, _, _, _].toArray _)
        rw [o2 hye, o3 hye]
        exact (h1 _ l1 (nob _ _ t1) (by omega)).trans q1
      · rw [o2 hye]; exact ownsRow_row q2 fun g hg => h1 g (l2 g hg) (nob _ _ (t2 g hg)) (by have := c2 g hg; omega)
      · rw [o3 hye]; exact ownsRow_row q3 fun g hg => h1 g (l3 g hg) (nob _ _ (t3 g hg)) (by have := c3 g hg; omega)
  · rw [tgo _ hotl]; exact h.tt
  · rw [tgo _ hobl]; exact h.tm
  · by_cases hye : y.id = e.id
    · rw [hye, b1, b2, b3]; exact ⟨tgn, tgk, tga⟩
    · have hyv' := memv hyv hye
      obtain ⟨l1, l2, l3⟩ := h.lts hy hyv'
      obtain ⟨t1, t2, t3⟩ := h.tg y hy hyv'
      rw [o1 hye, o2 hye, o3 hye]
      exact ⟨(tgo _ l1).trans t1, fun g hg => (tgo _ (l2 g hg)).trans (t2 g hg), fun g hg => (tgo _ (l3 g hg)).trans (t3 g hg)⟩
  · by_cases hye : y.id = e.id
    · rw [hye, b1, b2, b3]; exact ⟨by omega, fun g hg => by have := kb g hg; omega, fun g hg => by have := ab g hg; omega⟩
    · rw [o1 hye, o2 hye, o3 hye]; exact h.low y hy (memv hyv hye)
theorem els_next {M : Dm} (h : M.Wf) : (M.els.length : Int) ≤ M.next := by
  have h0 : 0 ≤ M.next := by
    obtain ⟨r, hr, _⟩ := h.rootE
    have := h.low r hr; omega
  have := nodup_len (l := M.els.map El.id) (m := (List.range M.next.toNat).map fun (k : Nat) => (k : Int)) (ids_nodup h.up) fun x hx => by
    obtain ⟨e, he, rfl⟩ := List.mem_map.1 hx
    have := h.low e he
    exact List.mem_map.2 ⟨e.id.toNat, by simp; omega, by omega⟩
  simp at this; omega
/-- all are copied -/
theorem CpSt.tree {w wj : World} {M : Dm} {ot ob r : Nat} {L : Ly} {vs : List Int} {D : DataW Value} (h : CpSt w wj M ot ob r L vs D) (hall : ∀ e ∈ M.els, e.id ∈ vs) (hwf : M.Wf) (hew : ∀ e ∈ M.els, e.Wf) : TreeAt wj L M ∧ ∀ k, L.own M.els k → w.heap.size ≤ k := by
  have hlen : vs.length = M.els.length := by
    have q1 := nodup_len (l := vs) (m := M.els.map El.id) h.nd fun x hx => by
      obtain ⟨e, he, rfl⟩ := h.sub x hx
      exact List.mem_map.2 ⟨e, he, rfl⟩
    have q2 := nodup_len (l := M.els.map El.id) (m := vs) (ids_nodup hwf.up) fun x hx => by
      obtain ⟨e, he, rfl⟩ := List.mem_map.1 hx
      exact hall e he
    simp at q1 q2; omega
  have hmem : ∀ i, i ∈ vs ↔ (M.at i).isSome = true := fun i => by
    constructor
    · intro hi
      obtain ⟨e, he, rfl⟩ := h.sub i hi
      unfold Dm.at; rw [findE_of hwf.up he]; rfl
    · intro hi
      cases hx : M.at i with
      | none => rw [hx] at hi; cases hi
      | some e => obtain ⟨he, rfl⟩ := findE_some hx; exact hall e he
  have hb : TreeAt wj L M := by
    refine ⟨by rw [h.t, h.mb]; exact h.head, ⟨vs.length, D, by rw [hlen]; exact els_next hwf, by rw [h.mb]; exact h.map, ⟨(h.map.tidy (int_keyed Try.underlying3)).isMap, fun i => ?_⟩, fun i => ?_, h.sz.trans hlen⟩, fun e he => h.els e he (hall e he), ⟨by rw [h.t]; exact h.tt, by rw [h.mb]; exact h.tm, fun e he => h.tg e he (hall e he)⟩, hwf, hew⟩
    · unfold mvOf
      cases hx : M.at i with
      | none => exact h.at0 i (fun hi => by have := (hmem i).1 hi; rw [hx] at this; cases this)
      | some e => exact h.at1 i ((hmem i).2 (by rw [hx]; rfl))
    · rw [h.has]
      cases hx : (M.at i).isSome with
      | true => exact decide_eq_true ((hmem i).2 hx)
      | false => exact decide_eq_false (fun hi => by have := (hmem i).1 hi; rw [hx] at this; cases this)
  refine ⟨hb, fun k hk => ?_⟩
  rcases hk with rfl | rfl | ⟨e, he, hk⟩
  · rw [h.t]; exact h.lot
  · rw [h.mb]; exact h.lob
  · obtain ⟨q1, q2, q3⟩ := h.low e he (hall e he)
    have := h.lr
    rcases hk with rfl | hk | hk
    · omega
    · have := q2 k hk; omega
    · have := q3 k hk; omega

set_option maxRecDepth 100000 in
set_option maxHeartbeats 8000000 in
theorem domCopy_any (w : World) (L : Ly) (M : Dm) (h : TreeAt w L M) : Calls Try.prog 32 #[.pointer (some ⟨L.t, 0, none⟩)] w fun r w' => ∃ L' : Ly, r = .returned (.pointer (some ⟨L'.t, 0, none⟩)) ∧ w.grows w' ∧ TreeAt w' L' M ∧ ∀ k, L'.own M.els k → w.heap.size ≤ k := by
  have hx := h.head
  have zx := row_sz' hx
  have HT := Lib.hid h
  clear h
  have hmk := fun (W : World) => run_makeMap (P := Try.prog) 79 W
  go_enter Try.func32, Try.ntmps32
  go_wp2_with fail
  go_region
  have hg1 : w.grows ((w.alloc (Obj.map #[] 0)).alloc (.cells #[.map (some w.heap.size), .int .i64 M.root, .int .i64 M.next] 81)).drew := (by repeat (with_reducible first | assumption | exact grA | apply grB | apply grC | apply grD | refine grE ?_ (by omega) _ | refine grF ?_ (by omega) _ _))
  have hr1 : ((w.alloc (Obj.map #[] 0)).alloc (.cells #[.map (some w.heap.size), .int .i64 M.root, .int .i64 M.next] 81)).drew.row (w.heap.size + 1) = some (.cells #[.map (some w.heap.size), .int .i64 M.root, .int .i64 M.next] 81) := by simp [go_sem]
  have hm1 : ((w.alloc (Obj.map #[] 0)).alloc (.cells #[.map (some w.heap.size), .int .i64 M.root, .int .i64 M.next] 81)).drew.ownsMap Try.prog 3 heldP w.heap.size 0 (.map []) := ownsMap_row (World.ownsMap_made w _ _ _) (World.grows.row_eq (by repeat (with_reducible first | assumption | exact grA | apply grB | apply grC | apply grD | refine grE ?_ (by omega) _ | refine grF ?_ (by omega) _ _)) (by simp))
  generalize ((w.alloc (Obj.map #[] 0)).alloc (.cells #[.map (some w.heap.size), .int .i64 M.root, .int .i64 M.next] 81)).drew = w1 at *
  have hT1 := HT.out.grows hg1
  obtain ⟨c, D, hcn, hown, hmp, hhas, hsz⟩ := hT1.map
  have HO := Lib.hid hown; have HMP := Lib.hid hmp; have HH := Lib.hid hhas
  have hx1 := hT1.head
  have zx1 := row_sz' hx1
  have hmbl := hown.lt
  have hm0 := HT.out.lt (k := L.mb) (.inr (.inl rfl))
  have hr1l := (row_sz' hr1).1
  clear hT1 hown hmp hhas hsz hx zx
  go_wp2_with (at_range; go_loud (refine wpList_range_own _ rfl _ 79 rfl 3 77 (int_keyed Try.underlying3) Try.underlying79 heldP L.mb c D rfl HO.out ?_); intro w2 hrg2 hg2 hs2)
  go_frame
  have hgw2 : w.grows w2 := World.grows.grown hg1 hg2 (fun _ h => nomatch h)
  have r2 : ∀ k, k < w1.heap.size → w2.row k = w1.row k := fun k hk => World.row_grow hg2 hk (fun h => nomatch h)
  have HC0 := Lib.hid (show CpSt w w2 M (w.heap.size + 1) w.heap.size w1.heap.size ⟨w.heap.size + 1, w.heap.size, fun _ => 0, fun _ => .slice none 0 0, fun _ => .slice none 0 0, fun g => if g = w.heap.size + 1 then (-1, 0) else (-1, 1)⟩ [] (.map []) from
    ⟨rfl, rfl, hgw2, (r2 _ hr1l).trans hr1, ownsMap_row hm1 (r2 _ hm1.lt), fun _ => rfl, fun i hi => (by cases hi), fun i _ => rfl, rfl, List.nodup_nil, fun x hx => (by cases hx), fun e _ hx => (by cases hx), if_pos rfl, if_neg (by omega), fun e _ hx => (by cases hx), by omega, Nat.le_refl _, fun e _ hx => (by cases hx), by omega, by omega, by omega⟩)
  have HRG := Lib.hid hrg2
  clear hrg2 hm1 hr1 hx1 zx1 r2 hg2
  go_loopg [4] M.els.length (fun gn v4 wj => ∃ (vs : List Int) (Lc : Ly) (D' : DataW Value) (left : Lit → Bool) (cnt : Nat), Hid (gn + vs.length = M.els.length) ∧ Hid (CpSt w wj M (w.heap.size + 1) w.heap.size w1.heap.size Lc vs D') ∧ Hid (wj.ranges Try.prog 3 heldP L.mb w1.heap.size c D left cnt) ∧ Hid (∀ i, left (.int .i64 i) = true ↔ ((M.at i).isSome = true ∧ i ∉ vs)))
  case atStart => exact ⟨[], _, _, _, _, Lib.hid (by simp), HC0, HRG, Lib.hid fun i => by rw [HH.out]; simp⟩
  case round =>
    obtain ⟨vs, Lc, D', left, cnt, HQ, HC, HR, HL⟩ := hrel
    go_wp2_with (at_next; go_loud (refine wpList_next_ranges _ rfl _ rfl 3 (int_keyed Try.underlying3) heldP (Value.int .i64) (id : Value → Value) (fun key kl hkey => by obtain ⟨x, rfl, _⟩ := Maps.keyOf_int_inv Try.underlying3 hkey; exact ⟨x, rfl⟩) (fun v y _ => ⟨v, rfl⟩) L.mb w1.heap.size c D left cnt rfl HR.out ?_ ?_))
    · intro hc0 hl0
      go_wp2_with fail
      go_ret
      have hall : ∀ e ∈ M.els, e.id ∈ vs := fun e he => by
        apply Classical.byContradiction
        intro hn
        have := (HL.out e.id).2 ⟨by unfold Dm.at; rw [findE_of HT.out.wf.up he]; rfl, hn⟩
        rw [hl0] at this; cases this
      obtain ⟨q1, q2⟩ := HC.out.tree hall HT.out.wf HT.out.elWf
      exact ⟨Lc, by rw [HC.out.t]; rfl, HC.out.gr, q1, q2⟩
    · intro x c' kl y1 y2 w3 cnt' hkx hlx hRc hat hrg3 hcl hg3 hs3 hen
      obtain ⟨_, hx', rfl, hwx⟩ := Maps.keyOf_int_inv Try.underlying3 hkx
      cases hx'
      obtain ⟨hsome, hnv⟩ := (HL.out x).1 hlx
      cases hat0 : M.at x with
      | none => rw [hat0] at hsome; cases hsome
      | some e =>
        obtain ⟨he, rfl⟩ := findE_some hat0
        have hc' : c' = .pointer (some ⟨L.bl e.id, 0, none⟩) := by
          have h1 := hat nilP
          have h2 := HMP.out.2 e.id
          rw [h1] at h2
          unfold heldP at hRc
          cases hRc
          injection h2 with h2
          exact (show c' = mvOf L M e.id from h2).trans (by unfold mvOf; rw [hat0])
        subst hc'
        have hgw3 : w.grows w3 := World.grows.grown HC.out.gr hg3 (fun k hk => by cases hk; exact HC.out.lr)
        have r3 : ∀ k, k < wr.heap.size → k ≠ w1.heap.size → w3.row k = wr.row k := fun k hk hn => World.row_grow hg3 hk (fun h => by injection h with h; exact hn h)
        have hT3 := HT.out.grows hgw3
        have hew := HT.out.elWf e he
        obtain ⟨hrow, hks, hats⟩ := hT3.els e he
        obtain ⟨ka, kc, ek⟩ := own_slice hks
        obtain ⟨aa, ac, ea⟩ := own_slice hats
        unfold elC at hrow
        rw [ek, ea] at hrow
        rw [ek] at hks
        rw [ea] at hats
        have zr := row_sz' hrow
        have HCP := Lib.hid (domCopied_any w3 e ka aa kc ac (IntsAt_own hks) (at_slat hats) (by have := hew.2.2.2.2.2.2.2; omega) (by have := hew.2.2.2.2.2.2.1; omega))
        have HEN := Lib.hid hen
        have HE := Lib.hid he; have HNV := Lib.hid hnv; have HRG3 := Lib.hid hrg3; have HR3 := Lib.hid r3; have HGW3 := Lib.hid hgw3
        clear hT3 hks hats hat hRc hlx hkx hwx hsome hat0 he hnv hrg3 r3 ek ea hew
        go_upto_region 6 with (go_at_call 50; go_loud ((with_reducible refine HCP.out.mono ?_); rintro r wC ⟨ka', aa', kc', ac', rfl, hgC, hkC, haC⟩))
        have hd : ∀ g, (Value.slice ka' e.ks.length kc').ownBlock = some g → (Value.slice aa' e.at'.length ac').ownBlock ≠ some g := fun g h1 h2 => by
          rcases hkC.2 with ⟨h0, _⟩ | ⟨b1, _, _, h0, _, q1, _⟩
          · injection h0 with h0; subst h0; cases h1
          rcases haC.2 with ⟨h3, _⟩ | ⟨b2, _, _, h3, _, q2, _⟩
          · injection h3 with h3; subst h3; cases h2
          injection h0 with h0; injection h3 with h3
          subst h0; subst h3
          injection h1 with h1; injection h2 with h2
          subst h1; subst h2
          rw [q1] at q2
          injection q2 with q2
          injection q2 with _ q2 _
          exact absurd q2 (by decide)
        have hsC := hgC.below.size
        have hg4 : w3.grows (wC.alloc (.cells #[.int .i64 e.id, .int .i64 e.p, .string e.tag, .slice ka' e.ks.length kc', .slice aa' e.at'.length ac', .int .i64 e.bx.ty, .string e.bx.nm, .int .i64 e.bx.a, .int .i64 e.bx.b, .int .i64 e.bx.c, .int .i64 e.bx.d] 46)) := World.grows.alloc hgC _
        have hgC4 : wC.grows (wC.alloc (.cells #[.int .i64 e.id, .int .i64 e.p, .string e.tag, .slice ka' e.ks.length kc', .slice aa' e.at'.length ac', .int .i64 e.bx.ty, .string e.bx.nm, .int .i64 e.bx.a, .int .i64 e.bx.b, .int .i64 e.bx.c, .int .i64 e.bx.d] 46)) := World.grows.alloc World.grows.refl _
        have hn4 : (wC.alloc (.cells #[.int .i64 e.id, .int .i64 e.p, .string e.tag, .slice ka' e.ks.length kc', .slice aa' e.at'.length ac', .int .i64 e.bx.ty, .string e.bx.nm, .int .i64 e.bx.a, .int .i64 e.bx.b, .int .i64 e.bx.c, .int .i64 e.bx.d] 46)).row wC.heap.size = some (.cells #[.int .i64 e.id, .int .i64 e.p, .string e.tag, .slice ka' e.ks.length kc', .slice aa' e.at'.length ac', .int .i64 e.bx.ty, .string e.bx.nm, .int .i64 e.bx.a, .int .i64 e.bx.b, .int .i64 e.bx.c, .int .i64 e.bx.d] 46) := by simp [go_sem]
        generalize (wC.alloc (.cells #[.int .i64 e.id, .int .i64 e.p, .string e.tag, .slice ka' e.ks.length kc', .slice aa' e.at'.length ac', .int .i64 e.bx.ty, .string e.bx.nm, .int .i64 e.bx.a, .int .i64 e.bx.b, .int .i64 e.bx.c, .int .i64 e.bx.d] 46)) = w4 at *
        have hhl := (row_sz' HC.out.head).1
        have hml := HC.out.map.lt
        have hrot := HC.out.rot
        have hrl := HC.out.rl
        have hlr := HC.out.lr
        have hx4 : w4.row (w.heap.size + 1) = _ := (hg4.row_eq (by omega)).trans ((HR3.out _ hhl (fun h => hrot h.symm)).trans HC.out.head)
        have zx4 := row_sz' hx4
        have ho4 := ownsMap_row HC.out.map ((hg4.row_eq (by omega)).trans (HR3.out _ hml (by omega)))
        have HO4 := Lib.hid ho4
        have hvl : vs.length < maxLen := by
          have h1 := nodup_len (l := vs) (m := M.els.map El.id) HC.out.nd fun x hx => by
            obtain ⟨e', he', rfl⟩ := HC.out.sub x hx
            exact List.mem_map.2 ⟨e', he', rfl⟩
          have h2 := HT.out.wf.few
          simp at h1
          simp only [maxLen]; omega
        have hiI := (HT.out.elWf e HE.out).1
        clear ho4 hrow zr
        go_wp2_with (at_mapUpdate; go_loud (refine wpList_mapUpdate_own _ rfl (.tmp 35) (.tmp 36) (.tmp 6) 79 rfl 3 77 (int_keyed Try.underlying3) Try.underlying79 heldP w.heap.size vs.length D' rfl HO4.out hvl (.int .i64 e.id) (.pointer (some ⟨wC.heap.size, 0, none⟩)) (.int .i64 e.id) rfl (by simp [go_sem]) (keyOf_int_mk Try.underlying3 (lit_wf hiI)) _ [] rfl ?_); intro w5 hown5 hgr5)
        have hs5 := hgr5.size
        have hs34 := hg4.below.size
        have hsC4 := hgC4.below.size
        have rr : ∀ k, k < w4.heap.size → k ≠ w.heap.size → w5.row k = w4.row k := fun k hk hn => World.row_grow hgr5 hk (fun h => by injection h with h; exact hn h)
        have hnl4 := (row_sz' hn4).1
        have hmb0 := HT.out.lt (k := L.mb) (.inr (.inl rfl))
        obtain ⟨L5, h5⟩ := CpSt.step (w1 := w3) (wC := wC) (W5 := w5) (nb := wC.heap.size) (ka := ka') (aa := aa') (kc := kc') (ac := ac') HC.out HE.out HNV.out (fun e he => (HT.out.wf.low e he).1) HT.out.wf.up
          (World.grows.grown (HGW3.out.trans hg4) hgr5 (fun k hk => by cases hk; exact Nat.le_refl _)) (fun k hk h1 h2 => (rr k (by omega) h1).trans ((hg4.row_eq (by omega)).trans (HR3.out k hk h2))) (by omega) (by omega) hkC haC hd (Nat.le_refl _) hsC
          (fun k h1 h2 => (rr k (by omega) (by omega)).trans (hgC4.row_eq h2)) ((rr _ hnl4 (by omega)).trans hn4) hown5
        have H5 := Lib.hid h5
        have HR5 := Lib.hid (ranges_row HRG3.out ((rr L.mb (by omega) (by omega)).trans (hg4.row_eq (by omega))) ((rr w1.heap.size (by omega) (by omega)).trans (hg4.row_eq (by omega))))
        have HL5 := Lib.hid (show ∀ i, (left (.int .i64 i) && !(Lit.int .i64 i).sameKey (.int .i64 e.id)) = true ↔ ((M.at i).isSome = true ∧ i ∉ vs ++ [e.id]) from fun i => by
          rw [Bool.and_eq_true, HL.out i]
          by_cases hi : i = e.id
          · subst hi; simp [Lit.sameKey]
          · simp [Lit.sameKey, hi])
        have hq := HQ.out
        have hvn : vs.length + 1 ≤ M.els.length := by
          have h1 := nodup_len (l := vs ++ [e.id]) (m := M.els.map El.id) h5.nd fun x hx => by
            obtain ⟨e', he', rfl⟩ := h5.sub x hx
            exact List.mem_map.2 ⟨e', he', rfl⟩
          simp at h1; omega
        clear h5 hown5 hgr5 rr hkC haC hd hg4 hgC4 hn4 hgC
        go_roundg (M.els.length - (vs.length + 1))
        case measure => omega
        case rel => exact ⟨vs ++ [e.id], L5, _, _, cnt', Lib.hid (by simp; omega), H5, HR5, HL5⟩
end Go.Proofs.Ytdbddnkjiehaiaa

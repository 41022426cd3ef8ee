/- WALK over dom: Copy. No condition but that a tree stands in memory. -/
import Derived.Test.YtdbddnkjiehaiaaGreatMl
import Derived.Maps.RangeWalk
set_option linter.unusedSimpArgs false
set_option linter.unusedVariables false
namespace Go
open Go.RowKit Go.Maps
theorem ranges_row {H : Type} {P : Program} {k : TypeId} {R : Value → Option (DataW H × List MemPlace)} {w W : World} {b r n : Nat} {D : DataW H} {left : Lit → Bool} {cnt : Nat} (h : w.ranges P k R b r n D left cnt) (h1 : W.row b = w.row b) (h2 : W.row r = w.row r) : W.ranges P k R b r n D left cnt := by
  obtain ⟨es, clock, since, seen, c0, q1, q2, q3, q4, q5, rest⟩ := h
  exact ⟨es, clock, since, seen, c0, h1.trans q1, q2, q3, q4, h2.trans q5, rest⟩
theorem ranges_lt {H : Type} {P : Program} {k : TypeId} {R : Value → Option (DataW H × List MemPlace)} {w : World} {b r n : Nat} {D : DataW H} {left : Lit → Bool} {cnt : Nat} (h : w.ranges P k R b r n D left cnt) : b < w.heap.size ∧ r < w.heap.size := by
  obtain ⟨es, clock, since, seen, c0, q1, q2, q3, q4, q5, rest⟩ := h
  exact ⟨(Array.getElem?_eq_some_iff.1 q1).1, (Array.getElem?_eq_some_iff.1 q5).1⟩
end Go
namespace Go.Proofs.YtdbddnkjiehaiaaGreat
open Go.Maps Go.RowKit Go.Sort
/-- the copy while it is made: of the numbers vs -/
structure CpSt (w wj : World) (M : Dm) (ot ob r : Nat) (L : Ly) (vs : List Int) (D : DataW Value) : Prop where
  t : L.t = ot
  mb : L.mb = ob
  gr : w.grows wj
  head : wj.row ot = some (.cells #[.map (some ob), .int .i64 M.root, .int .i64 M.next] 45)
  map : wj.ownsMap Tryz.prog 3 heldP ob vs.length D
  has : ∀ i, Maps.has D (.int .i64 i) = decide (i ∈ vs)
  at1 : ∀ i, i ∈ vs → D.atKey (.int .i64 i) nilP = .held (.pointer (some ⟨L.bl i, 0, none⟩))
  at0 : ∀ i, i ∉ vs → D.atKey (.int .i64 i) nilP = .held (.pointer none)
  sz : Maps.size D = vs.length
  nd : vs.Nodup
  sub : ∀ x ∈ vs, ∃ e ∈ M.els, e.id = x
  els : ∀ e ∈ M.els, e.id ∈ vs → ElAt wj L e
  tt : L.tg ot = (-1, 0)
  tm : L.tg ob = (-1, 1)
  tg : ∀ e ∈ M.els, e.id ∈ vs → L.tg (L.bl e.id) = (e.id, 0) ∧ (∀ g, (L.kv e.id).ownBlock = some g → L.tg g = (e.id, 1)) ∧ ∀ g, (L.av e.id).ownBlock = some g → L.tg g = (e.id, 2)
  lot : w.heap.size ≤ ot
  lob : w.heap.size ≤ ob
  low : ∀ e ∈ M.els, e.id ∈ vs → r < L.bl e.id ∧ (∀ g, (L.kv e.id).ownBlock = some g → r < g) ∧ ∀ g, (L.av e.id).ownBlock = some g → r < g
  lr : w.heap.size ≤ r
  rl : r < wj.heap.size
  rot : r ≠ ot
theorem CpSt.lts {w wj : World} {M : Dm} {ot ob r : Nat} {L : Ly} {vs : List Int} {D : DataW Value} (h : CpSt w wj M ot ob r L vs D) {e : El} (he : e ∈ M.els) (hv : e.id ∈ vs) : L.bl e.id < wj.heap.size ∧ (∀ g, (L.kv e.id).ownBlock = some g → g < wj.heap.size) ∧ ∀ g, (L.av e.id).ownBlock = some g → g < wj.heap.size := by
  obtain ⟨q1, q2, q3⟩ := h.els e he hv
  exact ⟨(row_sz' q1).1, fun g hg => (q2.lt g hg).2, fun g hg => (q3.lt g hg).2⟩
/-- one element more -/
theorem CpSt.step {w wr w1 wC W5 : World} {M : Dm} {ot ob r nb : Nat} {L : Ly} {vs : List Int} {D : DataW Value} (h : CpSt w wr M ot ob r L vs D) {e : El} (he : e ∈ M.els) (hv : e.id ∉ vs) {ka aa : Option Addr} {kc ac : Nat} (hlowM : ∀ e ∈ M.els, 0 ≤ e.id) (hup : M.els.Pairwise fun a b => a.id < b.id)
    (hg5 : w.grows W5) (h1 : ∀ k, k < wr.heap.size → k ≠ ob → k ≠ r → W5.row k = wr.row k) (hobt : ob ≠ ot)
    (hs1 : wr.heap.size ≤ w1.heap.size) (hk : wC.ownsRow w1.heap.size 3 1 (.slice ka e.ks.length kc) e.ks.length (e.ks.map (Value.int .i64))) (ha : wC.ownsRow w1.heap.size 71 2 (.slice aa e.at'.length ac) e.at'.length (atC e.at')) (hd : ∀ g, (Value.slice ka e.ks.length kc).ownBlock = some g → (Value.slice aa e.at'.length ac).ownBlock ≠ some g)
    (hnb : wC.heap.size ≤ nb) (hC1 : w1.heap.size ≤ wC.heap.size) (hrC : ∀ k, w1.heap.size ≤ k → k < wC.heap.size → W5.row k = wC.row k)
    (hnr : W5.row nb = some (.cells (elO e ka aa kc ac).toArray 49))
    (hmap : W5.ownsMap Tryz.prog 3 heldP ob (vs.length + 1) (D.put (.int .i64 e.id) (.held (.pointer (some ⟨nb, 0, none⟩))))) :
    ∃ L', CpSt w W5 M ot ob r L' (vs ++ [e.id]) (D.put (.int .i64 e.id) (.held (.pointer (some ⟨nb, 0, none⟩)))) := by
  have hobl := h.map.lt
  have hotl := (row_sz' h.head).1
  have hk5 : W5.ownsRow w1.heap.size 3 1 (.slice ka e.ks.length kc) e.ks.length (e.ks.map (Value.int .i64)) := ownsRow_row hk fun g hg => hrC g (hk.lt g hg).1 (hk.lt g hg).2
  have ha5 : W5.ownsRow w1.heap.size 71 2 (.slice aa e.at'.length ac) e.at'.length (atC e.at') := ownsRow_row ha fun g hg => hrC g (ha.lt g hg).1 (ha.lt g hg).2
  have kb : ∀ g, (Value.slice ka e.ks.length kc).ownBlock = some g → wr.heap.size ≤ g ∧ g < nb := fun g hg => by have := hk.lt g hg; omega
  have ab : ∀ g, (Value.slice aa e.at'.length ac).ownBlock = some g → wr.heap.size ≤ g ∧ g < nb := fun g hg => by have := ha.lt g hg; omega
  have hew0 := hlowM e he
  have hrl := h.rl
  have hlr := h.lr
  have hnbl := (row_sz' hnr).1
  obtain ⟨L', hL'⟩ : ∃ L' : Ly, L' = { L with bl := fun j => if j = e.id then nb else L.bl j, kv := fun j => if j = e.id then .slice ka e.ks.length kc else L.kv j, av := fun j => if j = e.id then .slice aa e.at'.length ac else L.av j, tg := fun g => if g = nb then (e.id, 0) else if wr.heap.size ≤ g ∧ (Value.slice ka e.ks.length kc).ownBlock = some g then (e.id, 1) else if wr.heap.size ≤ g ∧ (Value.slice aa e.at'.length ac).ownBlock = some g then (e.id, 2) else L.tg g } := ⟨_, rfl⟩
  have b1 : L'.bl e.id = nb := by rw [hL']; exact if_pos rfl
  have b2 : L'.kv e.id = .slice ka e.ks.length kc := by rw [hL']; exact if_pos rfl
  have b3 : L'.av e.id = .slice aa e.at'.length ac := by rw [hL']; exact if_pos rfl
  have o1 : ∀ {j}, j ≠ e.id → L'.bl j = L.bl j := fun hj => by rw [hL']; exact if_neg hj
  have o2 : ∀ {j}, j ≠ e.id → L'.kv j = L.kv j := fun hj => by rw [hL']; exact if_neg hj
  have o3 : ∀ {j}, j ≠ e.id → L'.av j = L.av j := fun hj => by rw [hL']; exact if_neg hj
  have tgo : ∀ g, g < wr.heap.size → L'.tg g = L.tg g := fun g hg => by
    rw [hL']
    show (if g = nb then _ else if wr.heap.size ≤ g ∧ _ then _ else if wr.heap.size ≤ g ∧ _ then _ else L.tg g) = L.tg g
    rw [if_neg (by omega), if_neg (fun hh => by omega), if_neg (fun hh => by omega)]
  have tgn : L'.tg nb = (e.id, 0) := by rw [hL']; exact if_pos rfl
  have tgk : ∀ g, (Value.slice ka e.ks.length kc).ownBlock = some g → L'.tg g = (e.id, 1) := fun g hg => by
    rw [hL']
    show (if g = nb then _ else if wr.heap.size ≤ g ∧ _ then _ else _) = _
    rw [if_neg (by have := kb g hg; omega), if_pos ⟨(kb g hg).1, hg⟩]
  have tga : ∀ g, (Value.slice aa e.at'.length ac).ownBlock = some g → L'.tg g = (e.id, 2) := fun g hg => by
    rw [hL']
    show (if g = nb then _ else if wr.heap.size ≤ g ∧ _ then _ else if wr.heap.size ≤ g ∧ _ then _ else _) = _
    rw [if_neg (by have := ab g hg; omega), if_neg (fun hh => hd g hh.2 hg), if_pos ⟨(ab g hg).1, hg⟩]
  have memv : ∀ {x : Int}, x ∈ vs ++ [e.id] → x ≠ e.id → x ∈ vs := fun hx hne => by
    rcases List.mem_append.1 hx with hx | hx
    · exact hx
    · simp at hx; exact absurd hx hne
  have ntgo : L'.t = L.t := by rw [hL']
  have nmgo : L'.mb = L.mb := by rw [hL']
  refine ⟨L', ntgo.trans h.t, nmgo.trans h.mb, hg5, ?_, ?_, fun i => ?_, fun i hi => ?_, fun i hi => ?_, ?_, ?_, fun x hx => ?_, fun y hy hyv => ?_, ?_, ?_, fun y hy hyv => ?_, h.lot, h.lob, fun y hy hyv => ?_, h.lr, by omega, h.rot⟩
  · exact (h1 _ hotl (fun e => hobt e.symm) (fun e => h.rot e.symm)).trans h.head
  · rw [List.length_append]; exact hmap
  · by_cases hi : i = e.id
    · subst hi
      rw [has_put_same (h.map.tidy (int_keyed Tryz.underlying3)).isMap (by first | exact trivial | exact .inl ⟨_, rfl⟩ | simp [WideAt.IsKeyLit])]; simp
    · rw [has_put_other (fun x => hi (by injection x)), h.has]; simp [hi]
  · by_cases hie : i = e.id
    · subst hie
      rw [atKey_put_same (h.map.tidy (int_keyed Tryz.underlying3)).isMap (by first | exact trivial | exact .inl ⟨_, rfl⟩ | simp [WideAt.IsKeyLit]), b1]
    · rw [atKey_put_other (fun x => hie (by injection x)), h.at1 i (memv hi hie), o1 hie]
  · have hie : i ≠ e.id := fun hh => hi (by rw [hh]; simp)
    rw [atKey_put_other (fun x => hie (by injection x)), h.at0 i (fun hh => hi (by simp [hh]))]
  · rw [size_put (h.map.tidy (int_keyed Tryz.underlying3)), h.has, if_neg (by simpa using hv), h.sz]; simp
  · rw [List.nodup_append]
    exact ⟨h.nd, by simp, fun a ha b hb hab => by simp at hb; subst hb; subst hab; exact hv ha⟩
  · rcases List.mem_append.1 hx with hx | hx
    · exact h.sub x hx
    · simp at hx; exact ⟨e, he, hx.symm⟩
  · by_cases hye : y.id = e.id
    · obtain rfl := ids_inj hup hy he hye
      refine ⟨?_, by rw [b2]; exact World.ownsRow.mono_base (Nat.zero_le _) hk5, by rw [b3]; exact World.ownsRow.mono_base (Nat.zero_le _) ha5⟩
      rw [b1]
      show W5.row nb = some (.cells [_, _, _, L'.kv y.id, L'.av y.id, _, _, _, _, _, _].toArray _)
      rw [b2, b3]; exact hnr
    · have hyv' := memv hyv hye
      obtain ⟨q1, q2, q3⟩ := h.els y hy hyv'
      obtain ⟨l1, l2, l3⟩ := h.lts hy hyv'
      obtain ⟨c1, c2, c3⟩ := h.low y hy hyv'
      have hy0 := hlowM y hy
      obtain ⟨t1, t2, t3⟩ := h.tg y hy hyv'
      have nob : ∀ k n, L.tg k = (y.id, n) → k ≠ ob := fun k n hk hh => by
        rw [hh, h.tm] at hk; injection hk with hk _; omega
      refine ⟨?_, ?_, ?_⟩
      · rw [o1 hye]
        show W5.row (L.bl y.id) = some (.cells [_, _, _, L'.kv y.id, L'.av y.id, _, _, _, _, _, _].toArray _)
        rw [o2 hye, o3 hye]
        exact (h1 _ l1 (nob _ _ t1) (by omega)).trans q1
      · rw [o2 hye]; exact ownsRow_row q2 fun g hg => h1 g (l2 g hg) (nob _ _ (t2 g hg)) (by have := c2 g hg; omega)
      · rw [o3 hye]; exact ownsRow_row q3 fun g hg => h1 g (l3 g hg) (nob _ _ (t3 g hg)) (by have := c3 g hg; omega)
  · rw [tgo _ hotl]; exact h.tt
  · rw [tgo _ hobl]; exact h.tm
  · by_cases hye : y.id = e.id
    · rw [hye, b1, b2, b3]; exact ⟨tgn, tgk, tga⟩
    · have hyv' := memv hyv hye
      obtain ⟨l1, l2, l3⟩ := h.lts hy hyv'
      obtain ⟨t1, t2, t3⟩ := h.tg y hy hyv'
      rw [o1 hye, o2 hye, o3 hye]
      exact ⟨(tgo _ l1).trans t1, fun g hg => (tgo _ (l2 g hg)).trans (t2 g hg), fun g hg => (tgo _ (l3 g hg)).trans (t3 g hg)⟩
  · by_cases hye : y.id = e.id
    · rw [hye, b1, b2, b3]; exact ⟨by omega, fun g hg => by have := kb g hg; omega, fun g hg => by have := ab g hg; omega⟩
    · rw [o1 hye, o2 hye, o3 hye]; exact h.low y hy (memv hyv hye)
theorem els_next {M : Dm} (h : M.Wf) : (M.els.length : Int) ≤ M.next := by
  have h0 : 0 ≤ M.next := by
    obtain ⟨r, hr, _⟩ := h.rootE
    have := h.low r hr; omega
  have := nodup_len (l := M.els.map El.id) (m := (List.range M.next.toNat).map fun (k : Nat) => (k : Int)) (ids_nodup h.up) fun x hx => by
    obtain ⟨e, he, rfl⟩ := List.mem_map.1 hx
    have := h.low e he
    exact List.mem_map.2 ⟨e.id.toNat, by simp; omega, by omega⟩
  simp at this; omega
/-- all are copied -/
theorem CpSt.tree {w wj : World} {M : Dm} {ot ob r : Nat} {L : Ly} {vs : List Int} {D : DataW Value} (h : CpSt w wj M ot ob r L vs D) (hall : ∀ e ∈ M.els, e.id ∈ vs) (hwf : M.Wf) (hew : ∀ e ∈ M.els, e.Wf) : TreeAt wj L M ∧ ∀ k, L.own M.els k → w.heap.size ≤ k := by
  have hlen : vs.length = M.els.length := by
    have q1 := nodup_len (l := vs) (m := M.els.map El.id) h.nd fun x hx => by
      obtain ⟨e, he, rfl⟩ := h.sub x hx
      exact List.mem_map.2 ⟨e, he, rfl⟩
    have q2 := nodup_len (l := M.els.map El.id) (m := vs) (ids_nodup hwf.up) fun x hx => by
      obtain ⟨e, he, rfl⟩ := List.mem_map.1 hx
      exact hall e he
    simp at q1 q2; omega
  have hmem : ∀ i, i ∈ vs ↔ (M.at i).isSome = true := fun i => by
    constructor
    · intro hi
      obtain ⟨e, he, rfl⟩ := h.sub i hi
      unfold Dm.at; rw [findE_of hwf.up he]; rfl
    · intro hi
      cases hx : M.at i with
      | none => rw [hx] at hi; cases hi
      | some e => obtain ⟨he, rfl⟩ := findE_some hx; exact hall e he
  have hb : TreeAt wj L M := by
    refine ⟨by rw [h.t, h.mb]; exact h.head, ⟨vs.length, D, by rw [hlen]; exact els_next hwf, by rw [h.mb]; exact h.map, ⟨(h.map.tidy (int_keyed Tryz.underlying3)).isMap, fun i => ?_⟩, fun i => ?_, h.sz.trans hlen⟩, fun e he => h.els e he (hall e he), ⟨by rw [h.t]; exact h.tt, by rw [h.mb]; exact h.tm, fun e he => h.tg e he (hall e he)⟩, hwf, hew⟩
    · unfold mvOf
      cases hx : M.at i with
      | none => exact h.at0 i (fun hi => by have := (hmem i).1 hi; rw [hx] at this; cases this)
      | some e => exact h.at1 i ((hmem i).2 (by rw [hx]; rfl))
    · rw [h.has]
      cases hx : (M.at i).isSome with
      | true => exact decide_eq_true ((hmem i).2 hx)
      | false => exact decide_eq_false (fun hi => by have := (hmem i).1 hi; rw [hx] at this; cases this)
  refine ⟨hb, fun k hk => ?_⟩
  rcases hk with rfl | rfl | ⟨e, he, hk⟩
  · rw [h.t]; exact h.lot
  · rw [h.mb]; exact h.lob
  · obtain ⟨q1, q2, q3⟩ := h.low e he (hall e he)
    have := h.lr
    rcases hk with rfl | hk | hk
    · omega
    · have := q2 k hk; omega
    · have := q3 k hk; omega

end Go.Proofs.YtdbddnkjiehaiaaGreat

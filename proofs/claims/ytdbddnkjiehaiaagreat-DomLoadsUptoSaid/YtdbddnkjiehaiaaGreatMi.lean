/- Texts of the walk, one after the other; what each proves stands ahead of it. -/
import Derived.Test.YtdbddnkjiehaiaaGreatMb
import Derived.Test.YtdbddnkjiehaiaaGreatMe
import Derived.Test.YtdbddnkjiehaiaaGreatMg
import Derived.Test.YtdbddnkjiehaiaaGreatMh
set_option linter.unusedSimpArgs false
set_option linter.unusedVariables false
/- TREES in memory: one element's slices changed; a new element. No condition. -/
namespace Go.Proofs.YtdbddnkjiehaiaaGreat
open Go.Maps Go.RowKit Go.Sort
/-- one element's slices laid anew; blocks from B on are its own -/
def Ly.put (L : Ly) (i : Int) (kv av : Value) (B : Nat) : Ly := { L with kv := fun j => if j = i then kv else L.kv j, av := fun j => if j = i then av else L.av j, tg := fun g => if B ≤ g ∧ kv.ownBlock = some g then (i, 1) else if B ≤ g ∧ av.ownBlock = some g then (i, 2) else L.tg g }
/-- a new element's block -/
def Ly.add (L : Ly) (i : Int) (nb : Nat) : Ly := { L with bl := fun j => if j = i then nb else L.bl j, kv := fun j => if j = i then .slice none 0 0 else L.kv j, av := fun j => if j = i then .slice none 0 0 else L.av j, tg := fun g => if g = nb then (i, 0) else L.tg g }
theorem Ly.put_tg {L : Ly} {i : Int} {kv av : Value} {B : Nat} {g : Nat} (h : g < B) : (L.put i kv av B).tg g = L.tg g := by
  show (if B ≤ g ∧ kv.ownBlock = some g then (i, 1) else if B ≤ g ∧ av.ownBlock = some g then (i, 2) else L.tg g) = L.tg g
  rw [if_neg (fun h' => by omega), if_neg (fun h' => by omega)]
theorem Ly.put_kv {L : Ly} {i : Int} {kv av : Value} {B : Nat} : (L.put i kv av B).kv i = kv := if_pos rfl
theorem Ly.put_av {L : Ly} {i : Int} {kv av : Value} {B : Nat} : (L.put i kv av B).av i = av := if_pos rfl
theorem Ly.put_kv' {L : Ly} {i j : Int} {kv av : Value} {B : Nat} (h : j ≠ i) : (L.put i kv av B).kv j = L.kv j := if_neg h
theorem Ly.put_av' {L : Ly} {i j : Int} {kv av : Value} {B : Nat} (h : j ≠ i) : (L.put i kv av B).av j = L.av j := if_neg h
theorem updE_id {i : Int} {f : El → El} (hf : ∀ e, (f e).id = e.id) {y : El} : (if y.id = i then f y else y).id = y.id := by split; exact hf y; rfl
theorem TreeAt.ltB {w : World} {L : Ly} {M : Dm} (h : TreeAt w L M) {e : El} (he : e ∈ M.els) : L.bl e.id < w.heap.size := h.lt (.inr (.inr ⟨e, he, .inl rfl⟩))
theorem TreeAt.ltK {w : World} {L : Ly} {M : Dm} (h : TreeAt w L M) {e : El} (he : e ∈ M.els) {g : Nat} (hg : (L.kv e.id).ownBlock = some g) : g < w.heap.size := h.lt (.inr (.inr ⟨e, he, .inr (.inl hg)⟩))
theorem TreeAt.ltA {w : World} {L : Ly} {M : Dm} (h : TreeAt w L M) {e : El} (he : e ∈ M.els) {g : Nat} (hg : (L.av e.id).ownBlock = some g) : g < w.heap.size := h.lt (.inr (.inr ⟨e, he, .inr (.inr hg)⟩))
/-- another element's blocks are none of e's, nor the tree's own -/
theorem TreeAt.apart {w : World} {L : Ly} {M : Dm} (h : TreeAt w L M) {e y : El} (he : e ∈ M.els) (hy : y ∈ M.els) (hne : y.id ≠ e.id) {k : Nat} (hk : k = L.bl y.id ∨ (L.kv y.id).ownBlock = some k ∨ (L.av y.id).ownBlock = some k) :
    k ≠ L.t ∧ k ≠ L.mb ∧ k ≠ L.bl e.id ∧ (L.kv e.id).ownBlock ≠ some k ∧ (L.av e.id).ownBlock ≠ some k := by
  obtain ⟨t1, t2, t3⟩ := h.ok
  obtain ⟨y1, y2, y3⟩ := t3 y hy
  obtain ⟨e1, e2, e3⟩ := t3 e he
  have hy0 := (h.wf.low y hy).1
  have q : ∃ n, L.tg k = (y.id, n) := by
    rcases hk with rfl | hk | hk
    · exact ⟨_, y1⟩
    · exact ⟨_, y2 k hk⟩
    · exact ⟨_, y3 k hk⟩
  obtain ⟨n, q⟩ := q
  refine ⟨fun hh => ?_, fun hh => ?_, fun hh => ?_, fun hh => ?_, fun hh => ?_⟩
  · rw [hh, t1] at q; injection q with q _; omega
  · rw [hh, t2] at q; injection q with q _; omega
  · rw [hh, e1] at q; injection q with q _; exact hne q.symm
  · rw [e2 k hh] at q; injection q with q _; exact hne q.symm
  · rw [e3 k hh] at q; injection q with q _; exact hne q.symm
/-- an element's own blocks differ, and are none of the tree's own -/
theorem TreeAt.self {w : World} {L : Ly} {M : Dm} (h : TreeAt w L M) {e : El} (he : e ∈ M.els) : L.t ≠ L.mb ∧ L.bl e.id ≠ L.t ∧ L.bl e.id ≠ L.mb ∧ (∀ g, (L.kv e.id).ownBlock = some g → g ≠ L.t ∧ g ≠ L.mb ∧ g ≠ L.bl e.id ∧ (L.av e.id).ownBlock ≠ some g) ∧ (∀ g, (L.av e.id).ownBlock = some g → g ≠ L.t ∧ g ≠ L.mb ∧ g ≠ L.bl e.id ∧ (L.kv e.id).ownBlock ≠ some g) := by
  obtain ⟨t1, t2, t3⟩ := h.ok
  obtain ⟨e1, e2, e3⟩ := t3 e he
  have he0 := (h.wf.low e he).1
  have q0 : ∀ {a b : Int × Nat}, a = b → a.1 = b.1 ∧ a.2 = b.2 := fun hh => by rw [hh]; exact ⟨rfl, rfl⟩
  have z1 : ∀ {n : Nat}, ((-1 : Int), n) ≠ (e.id, n) := fun hh => by have := (q0 hh).1; simp at this; omega
  refine ⟨fun hh => ?_, fun hh => ?_, fun hh => ?_, fun g hg => ⟨fun hh => ?_, fun hh => ?_, fun hh => ?_, fun hh => ?_⟩, fun g hg => ⟨fun hh => ?_, fun hh => ?_, fun hh => ?_, fun hh => ?_⟩⟩
  · rw [hh, t2] at t1; cases t1
  · rw [hh, t1] at e1; have := (q0 e1).1; simp at this; omega
  · rw [hh, t2] at e1; have := (q0 e1).1; simp at this; omega
  · have := e2 g hg; rw [hh, t1] at this; have := (q0 this).1; simp at this; omega
  · have := e2 g hg; rw [hh, t2] at this; have := (q0 this).1; simp at this; omega
  · have := e2 g hg; rw [hh, e1] at this; cases this
  · have q1 := e2 g hg; have q2 := e3 g hh; rw [q1] at q2; cases q2
  · have := e3 g hg; rw [hh, t1] at this; have := (q0 this).1; simp at this; omega
  · have := e3 g hg; rw [hh, t2] at this; have := (q0 this).1; simp at this; omega
  · have := e3 g hg; rw [hh, e1] at this; cases this
  · have q1 := e3 g hg; have q2 := e2 g hh; rw [q1] at q2; cases q2
/-- what is asked of slices laid anew: of e's own blocks, or new ones -/
structure Anew (w : World) (L : Ly) (e : El) (kv av : Value) : Prop where
  k : ∀ g, kv.ownBlock = some g → (L.kv e.id).ownBlock = some g ∨ w.heap.size ≤ g
  a : ∀ g, av.ownBlock = some g → (L.av e.id).ownBlock = some g ∨ w.heap.size ≤ g
  d : ∀ g, kv.ownBlock = some g → w.heap.size ≤ g → av.ownBlock ≠ some g
theorem Ly.own_put {w : World} {L : Ly} {M : Dm} (h : TreeAt w L M) {e : El} (he : e ∈ M.els) {f : El → El} (hf : ∀ e, (f e).id = e.id) {kv av : Value} (hn : Anew w L e kv av) {k : Nat} (hk : (L.put e.id kv av w.heap.size).own (updE M.els e.id f) k) : L.own M.els k ∨ (w.heap.size ≤ k ∧ (kv.ownBlock = some k ∨ av.ownBlock = some k)) := by
  rw [Ly.own_upd hf] at hk
  rcases hk with rfl | rfl | ⟨y, hy, hk⟩
  · exact .inl (.inl rfl)
  · exact .inl (.inr (.inl rfl))
  · by_cases hye : y.id = e.id
    · rw [hye, Ly.put_kv, Ly.put_av] at hk
      rcases hk with rfl | hk | hk
      · exact .inl (.inr (.inr ⟨e, he, .inl rfl⟩))
      · exact (hn.k k hk).imp (fun h => .inr (.inr ⟨e, he, .inr (.inl h)⟩)) fun h => ⟨h, .inl hk⟩
      · exact (hn.a k hk).imp (fun h => .inr (.inr ⟨e, he, .inr (.inr h)⟩)) fun h => ⟨h, .inr hk⟩
    · rw [Ly.put_kv' hye, Ly.put_av' hye] at hk
      exact .inl (.inr (.inr ⟨y, hy, hk⟩))
theorem TreeAt.put {w W : World} {L : Ly} {M : Dm} (h : TreeAt w L M) {e : El} (he : e ∈ M.els) (f : El → El) (h1 : ∀ e, (f e).id = e.id) {kv av : Value} (hn : Anew w L e kv av)
    (hr : W.row (L.bl e.id) = some (.cells #[.int .i64 e.id, .int .i64 (f e).p, .string (f e).tag, kv, av, .int .i64 (f e).bx.ty, .string (f e).bx.nm, .int .i64 (f e).bx.a, .int .i64 (f e).bx.b, .int .i64 (f e).bx.c, .int .i64 (f e).bx.d] 49))
    (hK : W.ownsRow 0 3 1 kv (f e).ks.length ((f e).ks.map (Value.int .i64))) (hA : W.ownsRow 0 71 2 av (f e).at'.length (atC (f e).at'))
    (ho : ∀ k, k < w.heap.size → k ≠ L.t → k ≠ L.mb → k ≠ L.bl e.id → (L.kv e.id).ownBlock ≠ some k → (L.av e.id).ownBlock ≠ some k → W.row k = w.row k) :
    (∀ x ∈ updE M.els e.id f, ElAt W (L.put e.id kv av w.heap.size) x) ∧ (L.put e.id kv av w.heap.size).Ok (updE M.els e.id f) := by
  constructor
  · intro x hx
    obtain ⟨y, hy, rfl⟩ := updE_mem.1 hx
    by_cases hye : y.id = e.id
    · obtain rfl := ids_inj h.wf.up hy he hye
      rw [if_pos rfl]
      refine ⟨?_, ?_, ?_⟩
      · rw [h1]
        show W.row (L.bl y.id) = some (.cells [_, _, _, (L.put y.id kv av w.heap.size).kv (f y).id, (L.put y.id kv av w.heap.size).av (f y).id, _, _, _, _, _, _].toArray _)
        rw [h1, Ly.put_kv, Ly.put_av]; exact hr
      · rw [h1, Ly.put_kv]; exact hK
      · rw [h1, Ly.put_av]; exact hA
    · rw [if_neg hye]
      obtain ⟨q1, q2, q3⟩ := h.els y hy
      have kp : ∀ k, (k = L.bl y.id ∨ (L.kv y.id).ownBlock = some k ∨ (L.av y.id).ownBlock = some k) → W.row k = w.row k := fun k hk => by
        obtain ⟨a1, a2, a3, a4, a5⟩ := h.apart he hy hye hk
        exact ho k (h.lt (.inr (.inr ⟨y, hy, hk⟩))) a1 a2 a3 a4 a5
      refine ⟨?_, ?_, ?_⟩
      · show W.row (L.bl y.id) = some (.cells [_, _, _, (L.put e.id kv av w.heap.size).kv y.id, (L.put e.id kv av w.heap.size).av y.id, _, _, _, _, _, _].toArray _)
        rw [Ly.put_kv' hye, Ly.put_av' hye]
        exact (kp _ (.inl rfl)).trans q1
      · rw [Ly.put_kv' hye]; exact ownsRow_row q2 fun g hg => kp g (.inr (.inl hg))
      · rw [Ly.put_av' hye]; exact ownsRow_row q3 fun g hg => kp g (.inr (.inr hg))
  · obtain ⟨t1, t2, t3⟩ := h.ok
    refine ⟨(Ly.put_tg (h.lt (.inl rfl))).trans t1, (Ly.put_tg (h.lt (.inr (.inl rfl)))).trans t2, fun x hx => ?_⟩
    obtain ⟨y, hy, rfl⟩ := updE_mem.1 hx
    rw [updE_id h1]
    obtain ⟨y1, y2, y3⟩ := t3 y hy
    refine ⟨by show (L.put e.id kv av w.heap.size).tg (L.bl y.id) = _; rw [Ly.put_tg (h.ltB hy)]; exact y1, fun g hg => ?_, fun g hg => ?_⟩
    · by_cases hye : y.id = e.id
      · rw [hye, Ly.put_kv] at hg
        by_cases hB : w.heap.size ≤ g
        · show (if w.heap.size ≤ g ∧ kv.ownBlock = some g then _ else _) = _
          rw [if_pos ⟨hB, hg⟩, hye]
        · rw [Ly.put_tg (by omega)]
          rcases hn.k g hg with h2 | h2
          · exact y2 g (by rw [hye]; exact h2)
          · omega
      · rw [Ly.put_kv' hye] at hg
        rw [Ly.put_tg (h.ltK hy hg)]; exact y2 g hg
    · by_cases hye : y.id = e.id
      · rw [hye, Ly.put_av] at hg
        by_cases hB : w.heap.size ≤ g
        · show (if w.heap.size ≤ g ∧ kv.ownBlock = some g then _ else if w.heap.size ≤ g ∧ av.ownBlock = some g then _ else _) = _
          rw [if_neg (fun hh => hn.d g hh.2 hh.1 hg), if_pos ⟨hB, hg⟩, hye]
        · rw [Ly.put_tg (by omega)]
          rcases hn.a g hg with h2 | h2
          · exact y3 g (by rw [hye]; exact h2)
          · omega
      · rw [Ly.put_av' hye] at hg
        rw [Ly.put_tg (h.ltA hy hg)]; exact y3 g hg
/-- the tree behind it, where its head and its map are as they were -/
theorem TreeAt.putT {w W : World} {L : Ly} {M : Dm} (h : TreeAt w L M) {e : El} (he : e ∈ M.els) (f : El → El) (h1 : ∀ e, (f e).id = e.id) {kv av : Value} (hn : Anew w L e kv av)
    (hr : W.row (L.bl e.id) = some (.cells #[.int .i64 e.id, .int .i64 (f e).p, .string (f e).tag, kv, av, .int .i64 (f e).bx.ty, .string (f e).bx.nm, .int .i64 (f e).bx.a, .int .i64 (f e).bx.b, .int .i64 (f e).bx.c, .int .i64 (f e).bx.d] 49))
    (hK : W.ownsRow 0 3 1 kv (f e).ks.length ((f e).ks.map (Value.int .i64))) (hA : W.ownsRow 0 71 2 av (f e).at'.length (atC (f e).at'))
    (ho : ∀ k, k < w.heap.size → k ≠ L.bl e.id → (L.kv e.id).ownBlock ≠ some k → (L.av e.id).ownBlock ≠ some k → W.row k = w.row k) (hwf : Dm.Wf ⟨M.root, M.next, updE M.els e.id f⟩) (hew : (f e).Wf) :
    TreeAt W (L.put e.id kv av w.heap.size) ⟨M.root, M.next, updE M.els e.id f⟩ := by
  obtain ⟨p1, p2⟩ := h.put he f h1 hn hr hK hA (fun k a _ _ b c d => ho k a b c d)
  obtain ⟨s0, s1, s2, s3, s4⟩ := h.self he
  have hmb : W.row L.mb = w.row L.mb := ho _ (h.lt (.inr (.inl rfl))) (fun e => s2 e.symm) (fun hh => (s3 _ hh).2.1 rfl) (fun hh => (s4 _ hh).2.1 rfl)
  refine ⟨(ho _ (h.lt (.inl rfl)) (fun e => s1 e.symm) (fun hh => (s3 _ hh).1 rfl) (fun hh => (s4 _ hh).1 rfl)).trans h.head, ?_, p1, p2, hwf, fun x hx => ?_⟩
  · obtain ⟨c, D, q1, q2, q3, q5, q4⟩ := h.map
    refine ⟨c, D, q1, ownsMap_row q2 hmb, ⟨q3.1, fun i => by rw [q3.2 i, ← mvOf_upd (L := L) (M := M) (id := e.id) h1 i]; rfl⟩, fun i => by rw [q5 i]; unfold Dm.at; rw [findE_upd h1]; cases findE M.els i <;> rfl, by simpa [updE] using q4⟩
  · obtain ⟨y, hy, rfl⟩ := updE_mem.1 hx
    by_cases hye : y.id = e.id
    · obtain rfl := ids_inj h.wf.up hy he hye
      rw [if_pos rfl]; exact hew
    · rw [if_neg hye]; exact h.elWf y hy
theorem add_ok {L : Ly} {l : List El} (h : L.Ok l) {x : El} {nb : Nat} (hid : ∀ y ∈ l, y.id ≠ x.id) (hnb : ¬ L.own l nb) : (L.add x.id nb).Ok (l ++ [x]) := by
  obtain ⟨t1, t2, t3⟩ := h
  have tg : ∀ k, L.own l k → (L.add x.id nb).tg k = L.tg k := fun k hk => if_neg (fun e => hnb (by rw [← e]; exact hk))
  refine ⟨(tg _ (.inl rfl)).trans t1, (tg _ (.inr (.inl rfl))).trans t2, fun y hy => ?_⟩
  rcases List.mem_append.1 hy with hy | hy
  · have hne := hid y hy
    obtain ⟨y1, y2, y3⟩ := t3 y hy
    have e1 : (L.add x.id nb).bl y.id = L.bl y.id := if_neg hne
    have e2 : (L.add x.id nb).kv y.id = L.kv y.id := if_neg hne
    have e3 : (L.add x.id nb).av y.id = L.av y.id := if_neg hne
    rw [e1, e2, e3]
    exact ⟨by rw [tg _ (.inr (.inr ⟨y, hy, .inl rfl⟩))]; exact y1, fun g hg => by rw [tg _ (.inr (.inr ⟨y, hy, .inr (.inl hg)⟩))]; exact y2 g hg, fun g hg => by rw [tg _ (.inr (.inr ⟨y, hy, .inr (.inr hg)⟩))]; exact y3 g hg⟩
  · simp only [List.mem_singleton] at hy
    subst hy
    have e1 : (L.add y.id nb).bl y.id = nb := if_pos rfl
    have e2 : (L.add y.id nb).kv y.id = .slice none 0 0 := if_pos rfl
    have e3 : (L.add y.id nb).av y.id = .slice none 0 0 := if_pos rfl
    rw [e1, e2, e3]
    exact ⟨if_pos rfl, fun g hg => (nomatch (show none = some g from hg)), fun g hg => (nomatch (show none = some g from hg))⟩
theorem add_at {W : World} {L : Ly} {l : List El} (h : ∀ y ∈ l, ElAt W L y) {x : El} {nb : Nat} (hid : ∀ y ∈ l, y.id ≠ x.id) (hk : x.ks = []) (ha : x.at' = []) (hr : W.row nb = some (.cells #[.int .i64 x.id, .int .i64 x.p, .string x.tag, .slice none 0 0, .slice none 0 0, .int .i64 x.bx.ty, .string x.bx.nm, .int .i64 x.bx.a, .int .i64 x.bx.b, .int .i64 x.bx.c, .int .i64 x.bx.d] 49)) :
    ∀ y ∈ l ++ [x], ElAt W (L.add x.id nb) y := by
  intro y hy
  rcases List.mem_append.1 hy with hy | hy
  · have hne := hid y hy
    have e1 : (L.add x.id nb).bl y.id = L.bl y.id := if_neg hne
    have e2 : (L.add x.id nb).kv y.id = L.kv y.id := if_neg hne
    have e3 : (L.add x.id nb).av y.id = L.av y.id := if_neg hne
    obtain ⟨q1, q2, q3⟩ := h y hy
    refine ⟨?_, by rw [e2]; exact q2, by rw [e3]; exact q3⟩
    rw [e1]
    show W.row (L.bl y.id) = some (.cells [_, _, _, (L.add x.id nb).kv y.id, (L.add x.id nb).av y.id, _, _, _, _, _, _].toArray _)
    rw [e2, e3]; exact q1
  · simp only [List.mem_singleton] at hy
    subst hy
    have e1 : (L.add y.id nb).bl y.id = nb := if_pos rfl
    have e2 : (L.add y.id nb).kv y.id = .slice none 0 0 := if_pos rfl
    have e3 : (L.add y.id nb).av y.id = .slice none 0 0 := if_pos rfl
    refine ⟨?_, by rw [e2, hk]; exact World.ownsRow_nil _ _ _ _, by rw [e3, ha]; exact World.ownsRow_nil _ _ _ _⟩
    rw [e1]
    show W.row nb = some (.cells [_, _, _, (L.add y.id nb).kv y.id, (L.add y.id nb).av y.id, _, _, _, _, _, _].toArray _)
    rw [e2, e3]; exact hr
theorem Ly.own_add {L : Ly} {l : List El} {x : El} {nb k : Nat} (hid : ∀ y ∈ l, y.id ≠ x.id) (hk : (L.add x.id nb).own (l ++ [x]) k) : L.own l k ∨ k = nb := by
  rcases hk with rfl | rfl | ⟨y, hy, hk⟩
  · exact .inl (.inl rfl)
  · exact .inl (.inr (.inl rfl))
  · rcases List.mem_append.1 hy with hy | hy
    · have hne := hid y hy
      have e1 : (L.add x.id nb).bl y.id = L.bl y.id := if_neg hne
      have e2 : (L.add x.id nb).kv y.id = L.kv y.id := if_neg hne
      have e3 : (L.add x.id nb).av y.id = L.av y.id := if_neg hne
      rw [e1, e2, e3] at hk
      exact .inl (.inr (.inr ⟨y, hy, hk⟩))
    · simp only [List.mem_singleton] at hy
      subst hy
      have e1 : (L.add y.id nb).bl y.id = nb := if_pos rfl
      have e2 : (L.add y.id nb).kv y.id = .slice none 0 0 := if_pos rfl
      have e3 : (L.add y.id nb).av y.id = .slice none 0 0 := if_pos rfl
      rw [e1, e2, e3] at hk
      rcases hk with rfl | hk | hk
      · exact .inr rfl
      · cases hk
      · cases hk
theorem findE_add {l : List El} {x : El} (hid : ∀ y ∈ l, y.id ≠ x.id) (i : Int) : findE (l ++ [x]) i = if i = x.id then some x else findE l i := by
  unfold findE
  rw [List.find?_append]
  by_cases hi : i = x.id
  · rw [if_pos hi]
    have : l.find? (fun e => decide (e.id = i)) = none := by
      rw [List.find?_eq_none]; intro y hy; simp; rw [hi]; exact hid y hy
    rw [this]; simp [hi]
  · rw [if_neg hi]
    have : ¬ x.id = i := fun e => hi e.symm
    simp [this]
theorem wf_kids {M : Dm} (h : M.Wf) {e : El} (he : e ∈ M.els) : e.ks.length ≤ 256 := by
  have := nodup_len (m := M.els.map El.id) (h.once e he) fun x hx => by
    obtain ⟨f, hf, h1, _⟩ := h.kid e he x hx
    exact List.mem_map.2 ⟨f, hf, h1⟩
  have hf := h.few
  simp at this
  omega
end Go.Proofs.YtdbddnkjiehaiaaGreat

/- PLAIN and memory: an attribute among those by rising names; one element's slices changed, as an edit. No condition. -/
namespace Go
open Go.RowKit
theorem u8_tri (x y : UInt8) : x < y ∨ x = y ∨ y < x := by
  rcases Nat.lt_trichotomy x.toNat y.toNat with h | h | h
  · exact .inl h
  · exact .inr (.inl (UInt8.toNat_inj.1 h))
  · exact .inr (.inr h)
theorem bytes_tri : ∀ (a b : List UInt8), a < b ∨ a = b ∨ b < a
  | [], [] => .inr (.inl rfl)
  | [], _ :: _ => .inl (List.nil_lt_cons _ _)
  | _ :: _, [] => .inr (.inr (List.nil_lt_cons _ _))
  | x :: s, y :: t => by
    rw [List.cons_lt_cons_iff, List.cons_lt_cons_iff]
    rcases u8_tri x y with h | rfl | h
    · exact .inl (.inl h)
    · rcases bytes_tri s t with h | rfl | h
      · exact .inl (.inr ⟨rfl, h⟩)
      · exact .inr (.inl rfl)
      · exact .inr (.inr (.inr ⟨rfl, h⟩))
    · exact .inr (.inr (.inl h))
theorem lessS_tri {a b : ByteArray} (h1 : lessS a b = false) (h2 : a ≠ b) : b.data.toList < a.data.toList := by
  unfold lessS at h1
  have h1' := of_decide_eq_false h1
  rcases bytes_tri a.data.toList b.data.toList with h | h | h
  · exact absurd h h1'
  · refine absurd ?_ h2
    have : a.data = b.data := Array.toList_inj.1 h
    cases a; cases b; simp_all
  · exact h
theorem bytes_irr (a : List UInt8) : ¬ a < a := List.lt_irrefl a
theorem ne_of_lt {a b : ByteArray} (h : a.data.toList < b.data.toList) : a ≠ b := fun e => by rw [e] at h; exact bytes_irr _ h
theorem putA_mem {l : List (ByteArray × ByteArray)} {n v : ByteArray} {x : ByteArray × ByteArray} (h : x ∈ putA l n v) : x = (n, v) ∨ x ∈ l := by
  induction l with
  | nil => simp [putA] at h; exact .inl h
  | cons a t ih =>
    unfold putA at h
    split at h
    · rcases List.mem_cons.1 h with rfl | h
      · exact .inr (by simp)
      · exact (ih h).imp id fun h => by simp [h]
    · split at h
      · rcases List.mem_cons.1 h with rfl | h
        · exact .inl rfl
        · exact .inr (by simp [h])
      · rcases List.mem_cons.1 h with rfl | h
        · exact .inl rfl
        · exact .inr h
theorem putA_up {l : List (ByteArray × ByteArray)} (h : UpA l) (n v : ByteArray) : UpA (putA l n v) := by
  induction l with
  | nil => simp [putA, UpA]
  | cons a t ih =>
    unfold UpA at h
    rw [List.pairwise_cons] at h
    unfold putA
    split
    · rename_i hl
      unfold UpA
      rw [List.pairwise_cons]
      refine ⟨fun y hy => ?_, ih h.2⟩
      rcases putA_mem hy with rfl | hy
      · exact of_decide_eq_true hl
      · exact h.1 y hy
    · rename_i hl
      split
      · rename_i he
        unfold UpA
        rw [List.pairwise_cons]
        exact ⟨fun y hy => by rw [← he]; exact h.1 y hy, h.2⟩
      · rename_i he
        have hlt := lessS_tri (by simpa using hl) he
        unfold UpA
        rw [List.pairwise_cons, List.pairwise_cons]
        exact ⟨fun y hy => by
          rcases List.mem_cons.1 hy with rfl | hy
          · exact hlt
          · exact List.lt_trans hlt (h.1 y hy), h.1, h.2⟩
def Dm.Ups (M : Dm) : Prop := ∀ e ∈ M.els, UpA e.at'
theorem own_set {w W : World} {B n g k cap o : Nat} {e : TypeId} {xs : List Value} {u : Value} (h : w.ownsRow B e n (.slice (some ⟨g, 0, none⟩) k cap) k xs) (ho : o < k * n) (hW : W.row g = w.row g) :
    (W.setCell ⟨g, o, none⟩ u).ownsRow B e n (.slice (some ⟨g, 0, none⟩) k cap) k (xs.set o u) := by
  obtain ⟨hl, ⟨h0, _⟩ | ⟨g', cap', cur, h0, hb, hg, hnc, hcm, hcs, ht⟩⟩ := h
  · cases h0
  injection h0 with h0 _ hc
  injection h0 with h0
  injection h0 with h0
  subst h0; subst hc
  have hrow : W.row g = some (.cells cur e (0, 0)) := hW.trans hg
  refine ⟨by rw [List.length_set]; exact hl, .inr ⟨g, cap, cur.setIfInBounds o u, rfl, hb, ?_, hnc, hcm, by simpa using hcs, ?_⟩⟩
  · have := World.row_setCell W g o g u
    rw [if_pos rfl, hrow] at this
    exact this
  · rw [Array.toList_setIfInBounds, List.take_set, ht]
end Go
namespace Go.Proofs.YtdbddnkjiehaiaaGreat
open Go.Maps Go.RowKit Go.Sort
theorem hasA_cons (a : ByteArray × ByteArray) (t : List (ByteArray × ByteArray)) (n : ByteArray) : hasA (a :: t) n = if lessS a.1 n then hasA t n else decide (a.1 = n) := by
  unfold hasA
  rw [posA_cons]
  by_cases h : lessS a.1 n = true
  · simp only [if_pos h, List.getElem?_cons_succ]
  · simp only [if_neg h, List.getElem?_cons_zero]
theorem hasA_all {l : List (ByteArray × ByteArray)} (h : UpA l) (n : ByteArray) : (l.all fun x => decide (x.1 ≠ n)) = !hasA l n := by
  induction l with
  | nil => simp [hasA]
  | cons a t ih =>
    unfold UpA at h
    rw [List.pairwise_cons] at h
    rw [hasA_cons, List.all_cons]
    by_cases hl : lessS a.1 n = true
    · rw [if_pos hl, ih h.2]
      have : a.1 ≠ n := ne_of_lt (of_decide_eq_true hl)
      simp [this]
    · rw [if_neg hl]
      by_cases he : a.1 = n
      · simp [he]
      · have hlt := lessS_tri (by simpa using hl) he
        have : (t.all fun x => decide (x.1 ≠ n)) = true := by
          rw [List.all_eq_true]; intro x hx
          exact decide_eq_true (fun e => ne_of_lt (List.lt_trans hlt (h.1 x hx)) e.symm)
        rw [this]; simp [he]
theorem hasA_at {l : List (ByteArray × ByteArray)} {n : ByteArray} (h : hasA l n = true) : ∃ x, l[posA l n]? = some x ∧ x.1 = n := by
  unfold hasA at h
  split at h
  · rename_i x hx; exact ⟨x, hx, of_decide_eq_true h⟩
  · cases h
theorem putA_has {l : List (ByteArray × ByteArray)} {n : ByteArray} (h : hasA l n = true) (v : ByteArray) : putA l n v = l.take (posA l n) ++ (n, v) :: l.drop (posA l n + 1) := by
  obtain ⟨x, hx, he⟩ := hasA_at h
  rw [putA_pos, hx]
  simp only [if_pos he]
theorem putA_no {l : List (ByteArray × ByteArray)} {n : ByteArray} (h : hasA l n = false) (v : ByteArray) : putA l n v = l.take (posA l n) ++ (n, v) :: l.drop (posA l n) := by
  rw [putA_pos]
  unfold hasA at h
  cases hx : l[posA l n]? with
  | none =>
    have := List.getElem?_eq_none_iff.1 hx
    rw [List.drop_of_length_le this]
  | some x =>
    rw [hx] at h
    simp only [if_neg (of_decide_eq_false h)]
theorem remA_has {l : List (ByteArray × ByteArray)} (hu : UpA l) {n : ByteArray} (h : hasA l n = true) : (l.filter fun x => decide (x.1 ≠ n)) = l.take (posA l n) ++ l.drop (posA l n + 1) := by
  induction l with
  | nil => simp [hasA] at h
  | cons a t ih =>
    unfold UpA at hu
    rw [List.pairwise_cons] at hu
    rw [hasA_cons] at h
    rw [posA_cons]
    by_cases hl : lessS a.1 n = true
    · rw [if_pos hl] at h ⊢
      have : a.1 ≠ n := ne_of_lt (of_decide_eq_true hl)
      rw [List.filter_cons_of_pos (by simp [this]), ih hu.2 h]
      simp
    · rw [if_neg hl] at h ⊢
      have he : a.1 = n := of_decide_eq_true h
      rw [List.filter_cons_of_neg (by simp [he])]
      have : (t.filter fun x => decide (x.1 ≠ n)) = t := List.filter_eq_self.2 fun x hx => decide_eq_true (fun e => ne_of_lt (hu.1 x hx) (by rw [he, e]))
      rw [this]; simp
theorem atC_len (l : List (ByteArray × ByteArray)) : (atC l).length = l.length * 2 := by
  unfold atC
  induction l with
  | nil => rfl
  | cons a t ih => rw [List.flatMap_cons, List.length_append, ih]; simp; omega
theorem atC_take (l : List (ByteArray × ByteArray)) (p : Nat) : (atC l).take (p * 2) = atC (l.take p) := by
  unfold atC
  induction l generalizing p with
  | nil => simp
  | cons a t ih =>
    cases p with
    | zero => simp
    | succ p =>
      rw [List.flatMap_cons, List.take_succ_cons, List.flatMap_cons, ← ih p, show (p + 1) * 2 = p * 2 + 2 by omega]
      simp
theorem atC_drop (l : List (ByteArray × ByteArray)) (p : Nat) : (atC l).drop (p * 2) = atC (l.drop p) := by
  unfold atC
  induction l generalizing p with
  | nil => simp
  | cons a t ih =>
    cases p with
    | zero => simp
    | succ p =>
      rw [List.flatMap_cons, List.drop_succ_cons, ← ih p, show (p + 1) * 2 = p * 2 + 2 by omega]
      simp
theorem atC_app (l m : List (ByteArray × ByteArray)) : atC (l ++ m) = atC l ++ atC m := by unfold atC; exact List.flatMap_append
/-- one element's slices changed: an edit -/
theorem TreeAt.edit1 {w w2 W : World} {L : Ly} {M : Dm} (hg : w.grows w2) (h : TreeAt w2 L M) {e : El} (he : e ∈ M.els) (f : El → El) (h1 : ∀ e, (f e).id = e.id) {kv av : Value} (hn : Anew w2 L e kv av)
    (hr : W.row (L.bl e.id) = some (.cells #[.int .i64 e.id, .int .i64 (f e).p, .string (f e).tag, kv, av, .int .i64 (f e).bx.ty, .string (f e).bx.nm, .int .i64 (f e).bx.a, .int .i64 (f e).bx.b, .int .i64 (f e).bx.c, .int .i64 (f e).bx.d] 49))
    (hK : W.ownsRow 0 3 1 kv (f e).ks.length ((f e).ks.map (Value.int .i64))) (hA : W.ownsRow 0 71 2 av (f e).at'.length (atC (f e).at'))
    (ho : ∀ k, k < w2.heap.size → k ≠ L.bl e.id → (L.kv e.id).ownBlock ≠ some k → (L.av e.id).ownBlock ≠ some k → W.row k = w2.row k) (hs : w2.heap.size ≤ W.heap.size)
    (hgr : ∀ w00 : World, (∀ k, L.own M.els k → w00.heap.size ≤ k) → w00.grows w2 → w00.grows W) (hwf : Dm.Wf ⟨M.root, M.next, updE M.els e.id f⟩) (hew : (f e).Wf) :
    ∃ L' : Ly, L'.t = L.t ∧ Chg (L.own M.els) w (L'.own (updE M.els e.id f)) W ∧ TreeAt W L' ⟨M.root, M.next, updE M.els e.id f⟩ := by
  refine ⟨L.put e.id kv av w2.heap.size, rfl, ⟨fun k hk => ?_, fun k hk hl => ?_, ?_, fun w00 a1 a2 => hgr w00 a1 (a2.trans hg)⟩, h.putT he f h1 hn hr hK hA ho hwf hew⟩
  · have := hg.below.size
    rcases Ly.own_put h he h1 hn hk with h2 | h2
    · exact .inl h2
    · exact .inr (by omega)
  · have := hg.below.size
    exact (ho k (by omega) (fun hh => hk (.inr (.inr ⟨e, he, .inl hh⟩))) (fun hh => hk (.inr (.inr ⟨e, he, .inr (.inl hh)⟩))) (fun hh => hk (.inr (.inr ⟨e, he, .inr (.inr hh)⟩)))).trans (hg.row_eq hl)
  · have := hg.below.size; omega
end Go.Proofs.YtdbddnkjiehaiaaGreat

/- WALK over dom: Insert where the element is put in. No condition but that a tree stands in memory. -/
namespace Go.Proofs.YtdbddnkjiehaiaaGreat
open Go.Maps Go.RowKit Go.Sort

/-- the tree that an insertion leaves -/
theorem domIns_end {w w2 w5 w7 : World} {L : Ly} {M : Dm} {e : El} {at' c nb : Nat} {D : DataW Value} {tag : ByteArray} {ka aa a7 : Option Addr} {kc ac c7 : Nat} {o : Obj} (hg1 : w.grows w2) (hT0 : TreeAt w L M) (hT : TreeAt w2 L M) (he : e ∈ M.els) (hat : at' ≤ e.ks.length) (ht : tag.size ≤ maxLen)
    (hwf : Dm.Wf ⟨M.root, M.next + 1, updE M.els e.id (insE at' M.next) ++ [⟨M.next, e.id, tag, [], [], plainBx⟩]⟩) (ek : L.kv e.id = .slice ka e.ks.length kc) (ea : L.av e.id = .slice aa e.at'.length ac)
    (hW5 : w5.ownsMap Tryz.prog 3 heldP L.mb (c + 1) (D.put (.int .i64 M.next) (.held (.pointer (some ⟨nb, 0, none⟩))))) (hown : w2.ownsMap Tryz.prog 3 heldP L.mb c D) (hcn : (c : Int) ≤ M.next) (hmp : MapP D (mvOf L M)) (hhas : ∀ i, has D (.int .i64 i) = (M.at i).isSome) (hsz : Maps.size D = M.els.length)
    (hnb : w5.row nb = some (.cells #[.int .i64 M.next, .int .i64 e.id, .string tag, .slice none 0 0, .slice none 0 0, .int .i64 0, .string ByteArray.empty, .int .i64 0, .int .i64 1, .int .i64 0, .int .i64 1] 49)) (hnl : w2.heap.size ≤ nb) (hnbl : nb < w5.heap.size)
    (hrT : w5.row L.t = some (.cells #[.map (some L.mb), .int .i64 M.root, .int .i64 (M.next + 1)] 45)) (hreq : ∀ k, k < w2.heap.size → k ≠ L.t → k ≠ L.mb → w5.row k = w2.row k) (hs5 : w2.heap.size ≤ w5.heap.size)
    (hgr : ∀ w00 : World, (∀ k, L.own M.els k → w00.heap.size ≤ k) → w00.grows w2 → w00.grows w5)
    (ho7 : w7.ownsRow 0 3 1 (.slice a7 (e.ks.length + 1) c7) (e.ks.length + 1) ((e.ks.map (Value.int .i64)).take (at' * 1) ++ [.int .i64 M.next] ++ (e.ks.map (Value.int .i64)).drop (at' * 1)))
    (hg7 : (w5.alloc o).grownBy w7 (Value.slice ka e.ks.length kc).ownBlock) (hA7 : (Value.slice a7 (e.ks.length + 1) c7).ownBlock = (Value.slice ka e.ks.length kc).ownBlock ∨ (Value.slice a7 (e.ks.length + 1) c7).ownBlock = some (w5.alloc o).heap.size)
    (hrow7 : w7.row (L.bl e.id) = some (.cells #[.int .i64 e.id, .int .i64 e.p, .string e.tag, .slice ka e.ks.length kc, .slice aa e.at'.length ac, .int .i64 e.bx.ty, .string e.bx.nm, .int .i64 e.bx.a, .int .i64 e.bx.b, .int .i64 e.bx.c, .int .i64 e.bx.d] 49)) :
    ∃ L' : Ly, L'.t = L.t ∧ Chg (L.own M.els) w (L'.own (updE M.els e.id (insE at' M.next) ++ [⟨M.next, e.id, tag, [], [], plainBx⟩])) (w7.setCell ⟨L.bl e.id, 3, none⟩ (.slice a7 (e.ks.length + 1) c7)) ∧
      TreeAt (w7.setCell ⟨L.bl e.id, 3, none⟩ (.slice a7 (e.ks.length + 1) c7)) L' ⟨M.root, M.next + 1, updE M.els e.id (insE at' M.next) ++ [⟨M.next, e.id, tag, [], [], plainBx⟩]⟩ := by
  obtain ⟨s0, s1, s2, s3, s4⟩ := hT.self he
  have hlow := hT.wf.low e he
  have hs6 : (w5.alloc o).heap.size = w5.heap.size + 1 := by simp
  have hs7 := hg7.size
  have hsW : (w7.setCell ⟨L.bl e.id, 3, none⟩ (.slice a7 (e.ks.length + 1) c7)).heap.size = w7.heap.size := World.setCell_size' _ _ _
  have hbl := hT.ltB he
  -- rows of the last world
  have r7 : ∀ k, k < w5.heap.size → (L.kv e.id).ownBlock ≠ some k → w7.row k = w5.row k := fun k hk hn => by
    rw [World.row_grow hg7 (by rw [hs6]; omega) (fun hh => hn (by rw [ek]; exact hh.symm))]
    exact World.grows.row_eq (World.grows.alloc World.grows.refl _) hk
  have rW : ∀ k, k < w5.heap.size → k ≠ L.bl e.id → (L.kv e.id).ownBlock ≠ some k → (w7.setCell ⟨L.bl e.id, 3, none⟩ (.slice a7 (e.ks.length + 1) c7)).row k = w5.row k := fun k hk h1 h2 => by
    rw [World.row_setCell, if_neg h1]; exact r7 k hk h2
  have hn : Anew w2 L e (.slice a7 (e.ks.length + 1) c7) (.slice aa e.at'.length ac) := by
    refine ⟨fun g hg => ?_, fun g hg => .inl (by rw [ea]; exact hg), fun g hg hl hh => ?_⟩
    · rcases hA7 with hA | hA
      · exact .inl (by rw [ek, ← hA]; exact hg)
      · rw [hg] at hA; injection hA with hA; exact .inr (by omega)
    · have := hT.ltA he (g := g) (by rw [ea]; exact hh); omega
  have hkne : ∀ g, (Value.slice a7 (e.ks.length + 1) c7).ownBlock = some g → g ≠ L.bl e.id := fun g hg hh => by
    rcases hn.k g hg with h | h
    · exact (s3 g h).2.2.1 hh
    · omega
  have hats : w2.ownsRow 0 71 2 (.slice aa e.at'.length ac) e.at'.length (atC e.at') := by
    have := (hT.els e he).2.2; rw [ea] at this; exact this
  obtain ⟨p1, p2⟩ := hT.put (W := w7.setCell ⟨L.bl e.id, 3, none⟩ (.slice a7 (e.ks.length + 1) c7)) he (insE at' M.next) (fun _ => rfl) hn
    (by rw [World.row_setCell, if_pos rfl, hrow7]; rfl)
    (by
      have e1 : ((insE at' M.next e).ks.map (Value.int .i64)) = (e.ks.map (Value.int .i64)).take (at' * 1) ++ [.int .i64 M.next] ++ (e.ks.map (Value.int .i64)).drop (at' * 1) := by
        show (e.ks.take at' ++ M.next :: e.ks.drop at').map _ = _
        simp [List.map_take, List.map_drop]
      have e2 : (insE at' M.next e).ks.length = e.ks.length + 1 := by
        show (e.ks.take at' ++ M.next :: e.ks.drop at').length = _
        simp; omega
      rw [e1, e2]
      exact ownsRow_row ho7 fun g hg => by rw [World.row_setCell, if_neg (hkne g hg)])
    (ownsRow_row hats fun g hg => by
      have hlt := (hats.lt g hg).2
      have q := s4 g (by rw [ea]; exact hg)
      rw [rW g (by omega) q.2.2.1 q.2.2.2]
      exact hreq g hlt q.1 q.2.1)
    (fun k hk h1 h2 h3 h4 h5 => (rW k (by omega) h3 h4).trans (hreq k hk h1 h2))
  have hid : ∀ y ∈ updE M.els e.id (insE at' M.next), y.id ≠ M.next := fun y hy => by
    obtain ⟨z, hz, rfl⟩ := updE_mem.1 hy
    rw [updE_id (f := insE at' M.next) (fun _ => rfl)]
    have := (hT.wf.low z hz).2; omega
  have hnbO : ¬ (L.put e.id (.slice a7 (e.ks.length + 1) c7) (.slice aa e.at'.length ac) w2.heap.size).own (updE M.els e.id (insE at' M.next)) nb := fun hh => by
    rcases Ly.own_put hT he (f := insE at' M.next) (fun _ => rfl) hn hh with h | ⟨h, h' | h'⟩
    · have := hT.lt h; omega
    · rcases hA7 with hA | hA
      · rw [hA] at h'
        have := hT.ltK he (g := nb) (by rw [ek]; exact h'); omega
      · rw [hA] at h'; injection h' with h'; omega
    · have := hT.ltA he (g := nb) (by rw [ea]; exact h'); omega
  have hnbW : (w7.setCell ⟨L.bl e.id, 3, none⟩ (.slice a7 (e.ks.length + 1) c7)).row nb = w5.row nb := rW nb hnbl (by omega) (fun hh => by have := hT.ltK he hh; omega)
  have hsome : ∀ i, (findE (updE M.els e.id (insE at' M.next)) i).isSome = (M.at i).isSome := fun i => by
    rw [findE_upd (f := insE at' M.next) (fun _ => rfl)]; unfold Dm.at; cases findE M.els i <;> rfl
  refine ⟨(L.put e.id (.slice a7 (e.ks.length + 1) c7) (.slice aa e.at'.length ac) w2.heap.size).add M.next nb, rfl, ⟨fun k hk => ?_, fun k hk hl => ?_, ?_, fun w00 a1 a2 => ?_⟩, ⟨?_, ?_, ?_, ?_, hwf, ?_⟩⟩
  · have hsz := hg1.below.size
    rcases Ly.own_add (x := ⟨M.next, e.id, tag, [], [], plainBx⟩) hid hk with hk | hk
    · rcases Ly.own_put hT he (f := insE at' M.next) (fun _ => rfl) hn hk with h | h
      · exact .inl h
      · exact .inr (by omega)
    · exact .inr (by omega)
  · have hsz := hg1.below.size
    have h1 : k ≠ L.t := fun hh => hk (.inl hh)
    have h2 : k ≠ L.mb := fun hh => hk (.inr (.inl hh))
    have h3 : k ≠ L.bl e.id := fun hh => hk (.inr (.inr ⟨e, he, .inl hh⟩))
    have h4 : (L.kv e.id).ownBlock ≠ some k := fun hh => hk (.inr (.inr ⟨e, he, .inr (.inl hh)⟩))
    exact (rW k (by omega) h3 h4).trans ((hreq k (by omega) h1 h2).trans (hg1.row_eq hl))
  · have hsz := hg1.below.size; omega
  · have q1 := hgr w00 a1 (a2.trans hg1)
    have q2 : w00.grows (w5.alloc o) := World.grows.alloc q1 _
    have q3 : w00.grows w7 := World.grows.grown q2 hg7 (fun k hk => a1 k (.inr (.inr ⟨e, he, .inr (.inl (by rw [ek]; exact hk))⟩)))
    exact q3.setCell' (a1 _ (.inr (.inr ⟨e, he, .inl rfl⟩))) _ _
  · show (w7.setCell _ _).row L.t = _
    rw [rW L.t (by have := hT.lt (k := L.t) (.inl rfl); omega) (fun hh => s1 hh.symm) (fun hh => (s3 _ hh).1 rfl)]; exact hrT
  · refine ⟨c + 1, _, by show ((c + 1 : Nat) : Int) ≤ M.next + 1; omega, ownsMap_row hW5 (rW L.mb (by have := hT.lt (k := L.mb) (.inr (.inl rfl)); omega) (fun hh => s2 hh.symm) (fun hh => (s3 _ hh).2.1 rfl)), ⟨hW5.tidy (int_keyed Tryz.underlying3) |>.isMap, fun i => ?_⟩, fun i => ?_, ?_⟩
    · unfold mvOf Dm.at
      rw [findE_add (x := ⟨M.next, e.id, tag, [], [], plainBx⟩) hid]
      by_cases hi : i = M.next
      · subst hi
        rw [atKey_put_same hmp.1 (by first | exact trivial | exact .inl ⟨_, rfl⟩ | simp [WideAt.IsKeyLit]), if_pos rfl]
        show DataW.held _ = DataW.held (Value.pointer (some ⟨(Ly.add _ M.next nb).bl M.next, 0, none⟩))
        rw [show (Ly.add _ M.next nb).bl M.next = nb from if_pos rfl]
      · rw [atKey_put_other (fun x => hi (by injection x)), if_neg hi, hmp.2 i]
        have := hsome i
        unfold mvOf
        cases h1 : findE (updE M.els e.id (insE at' M.next)) i with
        | none => rw [h1] at this; cases h2 : M.at i with | none => rfl | some y => rw [h2] at this; cases this
        | some x =>
          rw [h1] at this
          cases h2 : M.at i with
          | none => rw [h2] at this; cases this
          | some y =>
            show DataW.held (Value.pointer (some ⟨L.bl i, 0, none⟩)) = DataW.held (Value.pointer (some ⟨(Ly.add _ M.next nb).bl i, 0, none⟩))
            rw [show (Ly.add (L.put e.id (.slice a7 (e.ks.length + 1) c7) (.slice aa e.at'.length ac) w2.heap.size) M.next nb).bl i = L.bl i from if_neg hi]
    · unfold Dm.at
      rw [findE_add (x := ⟨M.next, e.id, tag, [], [], plainBx⟩) hid]
      by_cases hi : i = M.next
      · subst hi
        rw [has_put_same hmp.1 (by first | exact trivial | exact .inl ⟨_, rfl⟩ | simp [WideAt.IsKeyLit]), if_pos rfl]; rfl
      · rw [has_put_other (fun x => hi (by injection x)), if_neg hi, hhas i]; exact (hsome i).symm
    · have hno : has D (.int .i64 M.next) = false := by
        rw [hhas]
        cases h2 : M.at M.next with
        | none => rfl
        | some y =>
          obtain ⟨h3, h4⟩ := findE_some h2
          have := (hT.wf.low y h3).2; omega
      rw [size_put (hown.tidy (int_keyed Tryz.underlying3)), hno, hsz]
      simp [updE]
  · exact add_at (x := ⟨M.next, e.id, tag, [], [], plainBx⟩) p1 hid rfl rfl (hnbW.trans hnb)
  · exact add_ok (x := ⟨M.next, e.id, tag, [], [], plainBx⟩) p2 hid hnbO
  · intro x hx
    have hxk : x.ks.length ≤ 256 := wf_kids hwf hx
    rcases List.mem_append.1 hx with hx | hx
    · obtain ⟨y, hy, rfl⟩ := updE_mem.1 hx
      have hw := hT.elWf y hy
      by_cases hye : y.id = e.id
      · rw [if_pos hye] at hxk ⊢
        refine ⟨hw.1, hw.2.1, hw.2.2.1, fun k hk => ?_, hw.2.2.2.2.1, hw.2.2.2.2.2.1, hw.2.2.2.2.2.2.1, hxk⟩
        rcases (mem_ins at').1 hk with rfl | hk
        · have := hT.wf.nxt; exact ⟨by omega, by omega⟩
        · exact hw.2.2.2.1 k hk
      · rw [if_neg hye]; exact hw
    · simp only [List.mem_singleton] at hx
      subst hx
      have := hT.wf.nxt
      exact ⟨⟨by show _ ≤ M.next; omega, by show M.next ≤ _; omega⟩, (hT.elWf e he).1, ht, fun k hk => (by cases hk), fun x hx => (by cases hx), ⟨i64s (n := 0) (by decide) (by decide), (by decide +kernel : ByteArray.empty.size ≤ maxLen), i64s (n := 0) (by decide) (by decide), i64s (n := 1) (by decide) (by decide), i64s (n := 0) (by decide) (by decide), i64s (n := 1) (by decide) (by decide)⟩, Nat.zero_le _, Nat.zero_le _⟩

set_option maxRecDepth 100000 in
set_option maxHeartbeats 8000000 in
theorem domIns_ok (w : World) (L : Ly) (M : Dm) (h : TreeAt w L M) (hp : M.Par) {e : El} (he : e ∈ M.els) (at' : Nat) (hat : at' ≤ e.ks.length) (tag : ByteArray) (ht : tag.size ≤ maxLen) (hnm : nameB tag.data.toList = true) (few : M.els.length < 256) (nx : M.next ≤ 1073741824) (hd : M.deep 32 e.id < 32) :
    Calls Tryz.prog 21 #[.pointer (some ⟨L.t, 0, none⟩), .int .i64 e.id, .int .i64 at', .string tag] w (Edit w L M ⟨M.root, M.next + 1, updE M.els e.id (insE at' M.next) ++ [⟨M.next, e.id, tag, [], [], plainBx⟩]⟩ (.tuple #[.int .i64 M.next, .int .i64 0])) := by
  have hm := fun W => mayName_any tag W ht
  rw [hnm] at hm
  have HM := Lib.hid hm
  clear hm hnm
  have hx := h.head
  have zx := row_sz' hx
  have hlk := h.look e.id (h.elWf e he).1
  have hat0 : M.at e.id = some e := findE_of h.wf.up he
  unfold mvOf at hlk
  rw [hat0] at hlk
  simp only at hlk
  obtain ⟨hrow, hks, hats⟩ := h.els e he
  obtain ⟨ka, kc, ek⟩ := own_slice hks
  obtain ⟨aa, ac, ea⟩ := own_slice hats
  unfold elC at hrow
  rw [ek] at hrow
  rw [ea] at hrow
  have zr := row_sz' hrow
  have hlow := h.wf.low e he
  have hnx := h.wf.nxt
  have hkl := (h.elWf e he).2.2.2.2.2.2.2
  have HT := Lib.hid h; have HP := Lib.hid hp; have HE := Lib.hid he
  have HWF := Lib.hid (Dm.ins_wf h.wf hp he at' tag few nx hd).1
  have at1 : ¬ (at' : Int) < 0 := by omega
  have at2 : ¬ ((e.ks.length : Int) < (at' : Int)) := by omega
  clear h hp he hks hats hat0
  go_enter Tryz.func21, Tryz.ntmps21
  go_upto_region 8 with (go_at_call 40; (with_reducible refine (HM.out _).mono ?_); rintro e w1 ⟨rfl, x1, rfl⟩)
  have hg1 : w.grows (w.plus x1) := (by repeat (with_reducible first | assumption | exact grA | apply grB | apply grC | apply grD | refine grE ?_ (by omega) _ | refine grF ?_ (by omega) _ _))
  generalize w.plus x1 = w1 at *
  have hT1 := HT.out.grows hg1
  have hx1 := hT1.head
  have zx1 := row_sz' hx1
  have hrow1 := (hT1.els e HE.out).1
  unfold elC at hrow1
  rw [ek, ea] at hrow1
  have zr1 := row_sz' hrow1
  obtain ⟨c, D, hcn, hown, hmp, hhas, hsz⟩ := hT1.map
  have HO := Lib.hid hown; have HMP := Lib.hid hmp; have HH := Lib.hid hhas; have HS := Lib.hid hsz
  have HDP := Lib.hid (domDepth_any w1 L M hT1 HP.out e HE.out)
  have HT1 := Lib.hid hT1
  have hll : (M.els.length : Int) < 256 := by omega
  have hdd : ((M.deep 32 e.id : Nat) : Int) < 32 := by omega
  generalize M.deep 32 e.id = dd at *
  clear hT1 hown hmp hhas hlk hx zx hrow zr
  have hszI : ((Maps.size D : Nat) : Int) = (M.els.length : Int) := by rw [HS.out]
  clear hsz
  go_upto_region 12 with (first
    | (at_len; go_loud (refine wpList_len_own _ rfl _ 43 rfl 3 52 Tryz.underlying43 heldP L.mb c D rfl HO.out ?_); rw [hszI])
    | (go_at_call 13; go_loud ((with_reducible refine HDP.out.mono ?_); rintro r w2 ⟨rfl, rfl⟩)))
  go_upto_region 14 with fail
  obtain ⟨s0, s1, s2, s3, s4⟩ := HT1.out.self HE.out
  have hon : On L.t w2 (w2.setCell ⟨L.t, 2, none⟩ (.int .i64 (M.next + 1))) := (On.refl _ _).set 2 _
  have hrT : (w2.setCell ⟨L.t, 2, none⟩ (.int .i64 (M.next + 1))).row L.t = some (.cells #[.map (some L.mb), .int .i64 M.root, .int .i64 (M.next + 1)] 45) := by simp [go_sem, hx1, zx1]
  have hz3 : (w2.setCell ⟨L.t, 2, none⟩ (.int .i64 (M.next + 1))).heap.size = w2.heap.size := World.setCell_size' _ _ _
  generalize w2.setCell ⟨L.t, 2, none⟩ (.int .i64 (M.next + 1)) = w3 at *
  have HO3 := Lib.hid (ownsMap_row HO.out (hon.row _ (fun e => s0 e.symm) HO.out.lt))
  have hlb := HO.out.lt
  have hrow3 : w3.row (L.bl e.id) = _ := (hon.row _ s1 zr1.1).trans hrow1
  have zT := row_sz' hrT
  have zr3 := row_sz' hrow3
  clear hx1 zx1 hrow1 zr1
  have hnI : I64 M.next := ⟨by omega, by omega⟩
  have hcm : c < maxLen := by simp only [maxLen]; omega
  refine wp_region_plus_seq_tail 11 (by kernel_rfl) (by kernel_rfl) (fun x0 => ?_)
  simp only [List.take_succ_cons, List.take_zero, List.drop_succ_cons, List.drop_zero]
  repeat (any_goals (first | (refine wpSeqL_free rfl ?_; first | (go_big_quiet_skip; refine wpQuiet_nil ?_) | (go_big_quiet_step (fail); refine wpQuiet_nil ?_) | (refine wpQuiet_step (fun K hK => ?_); go_simp; split <;> (refine hK _ ?_; clear hK K; refine wpQuiet_nil ?_))) | (refine wpSeqL_link rfl (fun K hK => ?_); go_simp; first | first | (refine hK _ _ (by show World.grows _ _; repeat (first | assumption | exact grA | apply grB | apply grC | apply grD)) ?_; clear hK K) | (((go_at_call 44; (with_reducible refine (domFresh_any _).mono ?_); rintro e w1 ⟨rfl, x1, rfl⟩)); refine ⟨_, rfl, hK _ _ (by show World.grows _ _; repeat (first | assumption | exact grA | apply grB | apply grC | apply grD)) ?_⟩; clear hK K) | (split <;> (first | (refine hK _ _ (by show World.grows _ _; repeat (first | assumption | exact grA | apply grB | apply grC | apply grD)) ?_; clear hK K) | (((go_at_call 44; (with_reducible refine (domFresh_any _).mono ?_); rintro e w1 ⟨rfl, x1, rfl⟩)); refine ⟨_, rfl, hK _ _ (by show World.grows _ _; repeat (first | assumption | exact grA | apply grB | apply grC | apply grD)) ?_⟩; clear hK K))))))
  all_goals (refine wpSeqL_end ?_)
  go_upto_region 15 with (first | (at_mapUpdate; go_loud (refine wpList_mapUpdate_own _ rfl (.tmp 70) (.tmp 71) (.tmp 77) 43 rfl 3 52 (int_keyed Tryz.underlying3) Tryz.underlying43 heldP L.mb c D rfl (ownsMap_row HO3.out (World.grows.row_eq (by repeat (with_reducible first | assumption | exact grA | apply grB | apply grC | apply grD | refine grE ?_ (by omega) _ | refine grF ?_ (by omega) _ _)) (by omega))) hcm (.int .i64 M.next) (.pointer (some ⟨w3.heap.size + x0.bs.size + x1.bs.size, 0, none⟩)) (.int .i64 M.next) rfl (by simp [go_sem]) (keyOf_int_mk Tryz.underlying3 (lit_wf hnI)) _ [] rfl ?_); intro w5 hown5 hgr5))
  have q0 : w3.grows (((w3.plus x0).plus x1).alloc (.cells #[.int .i64 M.next, .int .i64 e.id, .string tag, .slice none 0 0, .slice none 0 0, .int .i64 0, .string ByteArray.empty, .int .i64 0, .int .i64 1, .int .i64 0, .int .i64 1] 49)) := (by repeat (with_reducible first | assumption | exact grA | apply grB | apply grC | apply grD | refine grE ?_ (by omega) _ | refine grF ?_ (by omega) _ _))
  have hnb : (((w3.plus x0).plus x1).alloc (.cells #[.int .i64 M.next, .int .i64 e.id, .string tag, .slice none 0 0, .slice none 0 0, .int .i64 0, .string ByteArray.empty, .int .i64 0, .int .i64 1, .int .i64 0, .int .i64 1] 49)).row (w3.heap.size + x0.bs.size + x1.bs.size) = some (.cells #[.int .i64 M.next, .int .i64 e.id, .string tag, .slice none 0 0, .slice none 0 0, .int .i64 0, .string ByteArray.empty, .int .i64 0, .int .i64 1, .int .i64 0, .int .i64 1] 49) := by simp [go_sem]
  have hnl : w3.heap.size ≤ w3.heap.size + x0.bs.size + x1.bs.size := by omega
  have hgs := hgr5.size
  generalize (((w3.plus x0).plus x1).alloc (.cells #[.int .i64 M.next, .int .i64 e.id, .string tag, .slice none 0 0, .slice none 0 0, .int .i64 0, .string ByteArray.empty, .int .i64 0, .int .i64 1, .int .i64 0, .int .i64 1] 49)) = w4 at *
  generalize w3.heap.size + x0.bs.size + x1.bs.size = nb at *
  have hnb5 : w5.row nb = _ := World.row_grown hgr5 hnb (fun hh => by injection hh with hh; omega)
  have hrT5 : w5.row L.t = _ := World.row_grown hgr5 ((q0.row_eq zT.1).trans hrT) (fun hh => by injection hh with hh; exact s0 hh)
  have hrow5 : w5.row (L.bl e.id) = _ := World.row_grown hgr5 ((q0.row_eq zr3.1).trans hrow3) (fun hh => by injection hh with hh; exact s2 hh)
  have hs5 : w2.heap.size ≤ w5.heap.size := by have := q0.below.size; omega
  have hreq : ∀ k, k < w2.heap.size → k ≠ L.t → k ≠ L.mb → w5.row k = w2.row k := fun k hk h1 h2 => by
    have e1 : w5.row k = w4.row k := World.row_grow hgr5 (by have := q0.below.size; omega) (fun hh => by injection hh with hh; exact h2 hh)
    exact e1.trans ((q0.row_eq (by omega)).trans (hon.row k h1 hk))
  have hks5 : w5.ownsRow 0 3 1 (.slice ka e.ks.length kc) e.ks.length (e.ks.map (Value.int .i64)) := by
    have := (HT1.out.els e HE.out).2.1
    rw [ek] at this
    exact ownsRow_row this fun g hg => hreq g (this.lt g hg).2 (s3 g (by rw [ek]; exact hg)).1 (s3 g (by rw [ek]; exact hg)).2.1
  have zr5 := row_sz' hrow5
  have HGR : Hid (∀ w00 : World, (∀ k, L.own M.els k → w00.heap.size ≤ k) → w00.grows w2 → w00.grows w5) := Lib.hid fun w00 a1 a2 => World.grows.grown ((hon.gr w00 (a1 _ (.inl rfl)) a2).trans q0) hgr5 (fun k hk => by cases hk; exact a1 _ (.inr (.inl rfl)))
  have HW5 := Lib.hid hown5; have HNB := Lib.hid hnb5; have HRT := Lib.hid hrT5; have HREQ := Lib.hid hreq
  have hne5 : (Value.slice ka e.ks.length kc).ownBlock ≠ some w5.heap.size := fun hh => by have := (hks5.lt _ hh).2; omega
  have HI := Lib.hid (insI_any (w5.alloc (.cells #[.int .i64 M.next] 3)) 0 (.slice ka e.ks.length kc) e.ks.length at' w5.heap.size 3 (e.ks.map (Value.int .i64)) [.int .i64 M.next] (hks5.grows (by repeat (with_reducible first | assumption | exact grA | apply grB | apply grC | apply grD | refine grE ?_ (by omega) _ | refine grF ?_ (by omega) _ _))) (Nat.zero_le _) hat (by omega) rfl (by simp [go_sem]) hne5 (int_one _) (by simp [Value.oneCell']))
  have hnbl : nb < w5.heap.size := (row_sz' hnb5).1
  clear hown5 hnb5 hrT5 hreq hks5 hgr5 q0 hgs hnb HO3 hrT zT hrow3 zr3
  go_wp2_with (go_at_call 45; go_loud ((with_reducible refine HI.out.mono ?_); rintro r w7 ⟨v', rfl, ho7, hg7, hA7⟩); obtain ⟨a7, c7, rfl⟩ := own_slice ho7; (have hrow7 : w7.row (L.bl e.id) = _ := World.row_grown hg7 ((World.grows.row_eq (World.grows.alloc World.grows.refl _) zr5.1).trans hrow5) (fun hh => (s3 _ (by rw [ek]; exact hh.symm)).2.2.1 rfl)); (have zr7 := row_sz' hrow7))
  go_ret2
  exact ⟨rfl, domIns_end hg1 HT.out HT1.out HE.out hat ht HWF.out ek ea HW5.out HO.out hcn HMP.out HH.out HS.out HNB.out (by omega) hnbl HRT.out HREQ.out hs5 HGR.out ho7 hg7 hA7 hrow7⟩
end Go.Proofs.YtdbddnkjiehaiaaGreat

/- WALK over dom: Insert. No condition but that a tree stands in memory. -/
namespace Go.Proofs.YtdbddnkjiehaiaaGreat
open Go.Maps Go.RowKit Go.Sort
theorem Edit.no {w W : World} {L : Ly} {M : Dm} {v : Value} (h : TreeAt w L M) (hg : w.grows W) : ∃ L' : Ly, L'.t = L.t ∧ Chg (L.own M.els) w (L'.own M.els) W ∧ TreeAt W L' M := ⟨L, rfl, (Chg.refl _ w).grow hg, h.grows hg⟩

set_option maxRecDepth 100000 in
set_option maxHeartbeats 8000000 in
theorem domIns_any (w : World) (L : Ly) (M : Dm) (h : TreeAt w L M) (hp : M.Par) (parent at' : Int) (tag : ByteArray) (hi : I64 parent) (ha : I64 at') (ht : tag.size ≤ maxLen) :
    Calls Tryz.prog 21 #[.pointer (some ⟨L.t, 0, none⟩), .int .i64 parent, .int .i64 at', .string tag] w (Edit w L M (M.ins parent at' tag).2.2 (.tuple #[.int .i64 (M.ins parent at' tag).1, .int .i64 (M.ins parent at' tag).2.1])) := by
  have hx := h.head
  have zx := row_sz' hx
  have hlk := h.look parent hi
  have hm := fun W => mayName_any tag W ht
  unfold mvOf at hlk
  cases hat : M.at parent with
  | none =>
    rw [hat] at hlk
    simp only at hlk
    have e : M.ins parent at' tag = (0, 5, M) := by unfold Dm.ins; rw [hat]
    rw [e]
    have HT := Lib.hid h
    clear hm h e hat
    go_enter Tryz.func21, Tryz.ntmps21
    go_wp2_with fail
    go_ret2
    exact ⟨rfl, Edit.no (v := undef) HT.out World.grows.refl⟩
  | some e0 =>
    rw [hat] at hlk
    simp only at hlk
    obtain ⟨he, rfl⟩ := findE_some hat
    have hrow := (h.els e0 he).1
    have hkl := (h.elWf e0 he).2.2.2.2.2.2.2
    obtain ⟨ka, kc, ek⟩ := own_slice (h.els e0 he).2.1
    unfold elC at hrow
    rw [ek] at hrow
    have zr := row_sz' hrow
    have HT := Lib.hid h; have HP := Lib.hid hp; have HE := Lib.hid he
    by_cases b1 : at' < 0 ∨ (e0.ks.length : Int) < at'
    · have e : M.ins e0.id at' tag = (0, 13, M) := by unfold Dm.ins; rw [hat]; simp only; rw [if_pos b1]
      rw [e]
      clear hm h e hat he hp
      by_cases b2 : at' < 0
      · clear b1
        go_enter Tryz.func21, Tryz.ntmps21
        go_wp2_with fail
        go_ret2
        exact ⟨rfl, Edit.no (v := undef) HT.out World.grows.refl⟩
      · have b3 : (e0.ks.length : Int) < at' := by rcases b1 with b | b; exact absurd b b2; exact b
        clear b1
        go_enter Tryz.func21, Tryz.ntmps21
        go_wp2_with fail
        go_ret2
        exact ⟨rfl, Edit.no (v := undef) HT.out World.grows.refl⟩
    · have c1 : ¬ at' < 0 := fun h => b1 (.inl h)
      have c2 : ¬ ((e0.ks.length : Int) < at') := fun h => b1 (.inr h)
      cases hnm : nameB tag.data.toList with
      | false =>
        have e : M.ins e0.id at' tag = (0, 10, M) := by unfold Dm.ins; rw [hat]; simp only; rw [if_neg b1, if_pos hnm]
        rw [e]
        rw [hnm] at hm
        have HM := Lib.hid hm
        clear hm h e hat he hp b1 hnm
        go_enter Tryz.func21, Tryz.ntmps21
        go_wp2_with (go_at_call 40; (with_reducible refine (HM.out _).mono ?_); rintro e w1 ⟨rfl, x1, rfl⟩)
        go_ret2
        exact ⟨rfl, Edit.no (v := undef) HT.out (by repeat (with_reducible first | assumption | exact grA | apply grB | apply grC | apply grD | refine grE ?_ (by omega) _ | refine grF ?_ (by omega) _ _))⟩
      | true =>
        rw [hnm] at hm
        have HM := Lib.hid hm
        by_cases b4 : 256 ≤ M.els.length ∨ 1073741824 < M.next
        · have e : M.ins e0.id at' tag = (0, 6, M) := by unfold Dm.ins; rw [hat]; simp only; rw [if_neg b1, if_neg (by rw [hnm]; decide), if_pos b4]
          rw [e]
          clear hm h e hat he hp b1 hnm
          go_enter Tryz.func21, Tryz.ntmps21
          go_upto_region 8 with (go_at_call 40; (with_reducible refine (HM.out _).mono ?_); rintro e w1 ⟨rfl, x1, rfl⟩)
          have hg1 : w.grows (w.plus x1) := (by repeat (with_reducible first | assumption | exact grA | apply grB | apply grC | apply grD | refine grE ?_ (by omega) _ | refine grF ?_ (by omega) _ _))
          generalize w.plus x1 = w1 at *
          have hT1 := HT.out.grows hg1
          have hx1 := hT1.head
          have zx1 := row_sz' hx1
          obtain ⟨c, D, hcn, hown, hmp, hhas, hsz⟩ := hT1.map
          have HO := Lib.hid hown
          have hszI : ((Maps.size D : Nat) : Int) = (M.els.length : Int) := by rw [hsz]
          clear hT1 hown hmp hhas hsz hlk hx zx hrow zr
          by_cases b5 : 256 ≤ M.els.length
          · have b6 : 256 ≤ (M.els.length : Int) := by omega
            clear b4
            go_wp2_with (at_len; go_loud (refine wpList_len_own _ rfl _ 43 rfl 3 52 Tryz.underlying43 heldP L.mb c D rfl HO.out ?_); rw [hszI])
            go_ret2
            exact ⟨rfl, Edit.no (v := undef) HT.out (by repeat (with_reducible first | assumption | exact grA | apply grB | apply grC | apply grD | refine grE ?_ (by omega) _ | refine grF ?_ (by omega) _ _))⟩
          · have b6 : ¬ 256 ≤ (M.els.length : Int) := by omega
            have b7 : 1073741824 < M.next := by rcases b4 with b | b; exact absurd b b5; exact b
            clear b4
            go_wp2_with (at_len; go_loud (refine wpList_len_own _ rfl _ 43 rfl 3 52 Tryz.underlying43 heldP L.mb c D rfl HO.out ?_); rw [hszI])
            go_ret2
            exact ⟨rfl, Edit.no (v := undef) HT.out (by repeat (with_reducible first | assumption | exact grA | apply grB | apply grC | apply grD | refine grE ?_ (by omega) _ | refine grF ?_ (by omega) _ _))⟩
        · by_cases b5 : 32 ≤ M.deep 32 e0.id
          · have e : M.ins e0.id at' tag = (0, 7, M) := by unfold Dm.ins; rw [hat]; simp only; rw [if_neg b1, if_neg (by rw [hnm]; decide), if_neg b4, if_pos b5]
            rw [e]
            clear hm h e hat he hp b1 hnm
            go_enter Tryz.func21, Tryz.ntmps21
            go_upto_region 8 with (go_at_call 40; (with_reducible refine (HM.out _).mono ?_); rintro e w1 ⟨rfl, x1, rfl⟩)
            have hg1 : w.grows (w.plus x1) := (by repeat (with_reducible first | assumption | exact grA | apply grB | apply grC | apply grD | refine grE ?_ (by omega) _ | refine grF ?_ (by omega) _ _))
            generalize w.plus x1 = w1 at *
            have hT1 := HT.out.grows hg1
            have hx1 := hT1.head
            have zx1 := row_sz' hx1
            obtain ⟨c, D, hcn, hown, hmp, hhas, hsz⟩ := hT1.map
            have HO := Lib.hid hown
            have hszI : ((Maps.size D : Nat) : Int) = (M.els.length : Int) := by rw [hsz]
            have HDP := Lib.hid (domDepth_any w1 L M hT1 HP.out e0 HE.out)
            clear hT1 hown hmp hhas hsz hlk hx zx hrow zr
            have b6 : ¬ 256 ≤ (M.els.length : Int) := by omega
            have b7 : ¬ 1073741824 < M.next := by omega
            have b8 : 32 ≤ ((M.deep 32 e0.id : Nat) : Int) := by omega
            generalize M.deep 32 e0.id = dd at *
            clear b4
            go_wp2_with (first
              | (at_len; go_loud (refine wpList_len_own _ rfl _ 43 rfl 3 52 Tryz.underlying43 heldP L.mb c D rfl HO.out ?_); rw [hszI])
              | (go_at_call 13; go_loud ((with_reducible refine HDP.out.mono ?_); rintro r w2 ⟨rfl, rfl⟩)))
            go_ret2
            exact ⟨rfl, Edit.no (v := undef) HT.out (by repeat (with_reducible first | assumption | exact grA | apply grB | apply grC | apply grD | refine grE ?_ (by omega) _ | refine grF ?_ (by omega) _ _))⟩
          · obtain ⟨n, rfl⟩ : ∃ n : Nat, at' = (n : Int) := ⟨at'.toNat, by omega⟩
            have e : M.ins e0.id n tag = (M.next, 0, ⟨M.root, M.next + 1, updE M.els e0.id (insE n M.next) ++ [⟨M.next, e0.id, tag, [], [], plainBx⟩]⟩) := by
              unfold Dm.ins; rw [hat]; simp only; rw [if_neg b1, if_neg (by rw [hnm]; decide), if_neg b4, if_neg b5]; rfl
            rw [e]
            exact domIns_ok w L M h hp he n (by omega) tag ht hnm (by omega) (by omega) (by omega)
end Go.Proofs.YtdbddnkjiehaiaaGreat

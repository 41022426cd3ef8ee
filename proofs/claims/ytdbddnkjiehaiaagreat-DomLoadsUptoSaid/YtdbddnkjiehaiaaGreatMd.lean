/- Texts of the walk, one after the other; what each proves stands ahead of it. -/
import Derived.Maps.Own
import Derived.Maps.OwnOps
import Derived.Maps.OwnSet
import Derived.Test.YtdbddnkjiehaiaaGreatAppB
import Derived.Test.YtdbddnkjiehaiaaGreatAppN
import Derived.Test.YtdbddnkjiehaiaaGreatBox
import Derived.Test.YtdbddnkjiehaiaaGreatInts
import Derived.Test.YtdbddnkjiehaiaaGreatIntsAt
import Derived.Test.YtdbddnkjiehaiaaGreatMa
import Derived.Test.YtdbddnkjiehaiaaGreatMb
import Derived.Test.YtdbddnkjiehaiaaGreatOps
import Derived.Test.YtdbddnkjiehaiaaGreatOpsE
set_option linter.unusedSimpArgs false
set_option linter.unusedVariables false
/- TREES in memory: the map of elements, their rows; what an edit may change. No condition. -/
namespace Go
open Go.Maps Go.RowKit
/-- what is changed: the blocks O, which become O'; all else stays -/
structure Chg (O : Nat → Prop) (w : World) (O' : Nat → Prop) (w' : World) : Prop where
  sub : ∀ k, O' k → O k ∨ w.heap.size ≤ k
  row : ∀ k, ¬ O k → k < w.heap.size → w'.row k = w.row k
  size : w.heap.size ≤ w'.heap.size
  gr : ∀ w00 : World, (∀ k, O k → w00.heap.size ≤ k) → w00.grows w → w00.grows w'
theorem Chg.refl (O : Nat → Prop) (w : World) : Chg O w O w := ⟨fun _ h => .inl h, fun _ _ _ => rfl, Nat.le_refl _, fun _ _ h => h⟩
theorem Chg.trans {O1 O2 O3 : Nat → Prop} {w1 w2 w3 : World} (h : Chg O1 w1 O2 w2) (k : Chg O2 w2 O3 w3) : Chg O1 w1 O3 w3 where
  sub := fun n hn => by
    rcases k.sub n hn with h2 | h2
    · exact h.sub n h2
    · exact .inr (Nat.le_trans h.size h2)
  row := fun n hn hl => (k.row n (fun h2 => by rcases h.sub n h2 with h3 | h3; exact hn h3; omega) (Nat.lt_of_lt_of_le hl h.size)).trans (h.row n hn hl)
  size := Nat.le_trans h.size k.size
  gr := fun w00 h1 h2 => k.gr w00 (fun n hn => by rcases h.sub n hn with h3 | h3; exact h1 n h3; exact Nat.le_trans h2.below.size h3) (h.gr w00 h1 h2)
theorem Chg.grow {O O' : Nat → Prop} {w w' W : World} (h : Chg O w O' w') (hg : w'.grows W) : Chg O w O' W :=
  ⟨h.sub, fun k hk hl => (hg.row_eq (Nat.lt_of_lt_of_le hl h.size)).trans (h.row k hk hl), Nat.le_trans h.size hg.below.size, fun w00 h1 h2 => (h.gr w00 h1 h2).trans hg⟩
/-- pointers by whole numbers -/
def nilP : DataW Value := .held (.pointer none)
def heldP (v : Value) : Option (DataW Value × List MemPlace) := some (.held v, [])
def MapP (D : DataW Value) (mv : Int → Value) : Prop := IsMap D ∧ ∀ i, D.atKey (.int .i64 i) nilP = .held (mv i)
/-- an element's box, as cells -/
abbrev bxC (b : Bx) : List Value := [.int .i64 b.ty, .string b.nm, .int .i64 b.a, .int .i64 b.b, .int .i64 b.c, .int .i64 b.d]
def atC (l : List (ByteArray × ByteArray)) : List Value := l.flatMap fun x => [.string x.1, .string x.2]
def Bx.Wf (b : Bx) : Prop := I64 b.ty ∧ b.nm.size ≤ maxLen ∧ I64 b.a ∧ I64 b.b ∧ I64 b.c ∧ I64 b.d
def El.Wf (e : El) : Prop := I64 e.id ∧ I64 e.p ∧ e.tag.size ≤ maxLen ∧ (∀ k ∈ e.ks, I64 k) ∧ (∀ x ∈ e.at', x.1.size ≤ maxLen ∧ x.2.size ≤ maxLen) ∧ e.bx.Wf ∧ e.at'.length ≤ 16 ∧ e.ks.length ≤ 256
end Go
namespace Go.Proofs.YtdbddnkjiehaiaaGreat
open Go.Maps Go.RowKit
/-- where a tree lies: itself, its map, each element's block, its rows; whose each block is -/
structure Ly where
  t : Nat
  mb : Nat
  bl : Int → Nat
  kv : Int → Value
  av : Int → Value
  tg : Nat → Int × Nat
def Ly.own (L : Ly) (l : List El) (k : Nat) : Prop := k = L.t ∨ k = L.mb ∨ ∃ e ∈ l, k = L.bl e.id ∨ (L.kv e.id).ownBlock = some k ∨ (L.av e.id).ownBlock = some k
/-- each block is of one owner -/
def Ly.Ok (L : Ly) (l : List El) : Prop := L.tg L.t = (-1, 0) ∧ L.tg L.mb = (-1, 1) ∧ ∀ e ∈ l, L.tg (L.bl e.id) = (e.id, 0) ∧ (∀ g, (L.kv e.id).ownBlock = some g → L.tg g = (e.id, 1)) ∧ ∀ g, (L.av e.id).ownBlock = some g → L.tg g = (e.id, 2)
abbrev elC (L : Ly) (e : El) : List Value := [.int .i64 e.id, .int .i64 e.p, .string e.tag, L.kv e.id, L.av e.id, .int .i64 e.bx.ty, .string e.bx.nm, .int .i64 e.bx.a, .int .i64 e.bx.b, .int .i64 e.bx.c, .int .i64 e.bx.d]
def ElAt (w : World) (L : Ly) (e : El) : Prop := w.row (L.bl e.id) = some (.cells (elC L e).toArray 49) ∧ w.ownsRow 0 3 1 (L.kv e.id) e.ks.length (e.ks.map (Value.int .i64)) ∧ w.ownsRow 0 71 2 (L.av e.id) e.at'.length (atC e.at')
def mvOf (L : Ly) (M : Dm) (i : Int) : Value := match M.at i with | some _ => .pointer (some ⟨L.bl i, 0, none⟩) | none => .pointer none
structure TreeAt (w : World) (L : Ly) (M : Dm) : Prop where
  head : w.row L.t = some (.cells #[.map (some L.mb), .int .i64 M.root, .int .i64 M.next] 45)
  map : ∃ (c : Nat) (D : DataW Value), (c : Int) ≤ M.next ∧ w.ownsMap Tryz.prog 3 heldP L.mb c D ∧ MapP D (mvOf L M) ∧ (∀ i, has D (.int .i64 i) = (M.at i).isSome) ∧ Maps.size D = M.els.length
  els : ∀ e ∈ M.els, ElAt w L e
  ok : L.Ok M.els
  wf : M.Wf
  elWf : ∀ e ∈ M.els, e.Wf
theorem ownsMap_row {w W : World} {H : Type} {P : Program} {k : TypeId} {R : Value → Option (DataW H × List MemPlace)} {b n : Nat} {D : DataW H} (h : w.ownsMap P k R b n D) (hr : W.row b = w.row b) : W.ownsMap P k R b n D := by
  obtain ⟨es, clock, hb, F, hs, hD⟩ := h
  exact ⟨es, clock, hr.trans hb, F, hs, hD⟩
theorem ownsRow_row {w W : World} {B : Nat} {e : TypeId} {n k : Nat} {v : Value} {xs : List Value} (h : w.ownsRow B e n v k xs) (hr : ∀ g, v.ownBlock = some g → W.row g = w.row g) : W.ownsRow B e n v k xs := by
  refine ⟨h.1, ?_⟩
  rcases h.2 with hn | ⟨g, cap, cur, rfl, hb, hgg, rest⟩
  · exact .inl hn
  · exact .inr ⟨g, cap, cur, rfl, hb, (hr g rfl).trans hgg, rest⟩
theorem TreeAt.lt {w : World} {L : Ly} {M : Dm} (h : TreeAt w L M) {k : Nat} (hk : L.own M.els k) : k < w.heap.size := by
  rcases hk with rfl | rfl | ⟨e, he, h1⟩
  · exact (row_sz' h.head).1
  · obtain ⟨_, _, _, h2, _⟩ := h.map; exact h2.lt
  · obtain ⟨q1, q2, q3⟩ := h.els e he
    rcases h1 with rfl | h1 | h1
    · exact (row_sz' q1).1
    · exact (q2.lt k h1).2
    · exact (q3.lt k h1).2
theorem TreeAt.keep {w W : World} {L : Ly} {M : Dm} (h : TreeAt w L M) (hr : ∀ k, L.own M.els k → k < w.heap.size → W.row k = w.row k) : TreeAt W L M where
  head := (hr _ (.inl rfl) (h.lt (.inl rfl))).trans h.head
  map := by
    obtain ⟨c, D, h1, h2, h3⟩ := h.map
    exact ⟨c, D, h1, ownsMap_row h2 (hr _ (.inr (.inl rfl)) (h.lt (.inr (.inl rfl)))), h3⟩
  els := fun e he => by
    obtain ⟨q1, q2, q3⟩ := h.els e he
    have ho : ∀ k, (k = L.bl e.id ∨ (L.kv e.id).ownBlock = some k ∨ (L.av e.id).ownBlock = some k) → W.row k = w.row k := fun k hk => hr k (.inr (.inr ⟨e, he, hk⟩)) (h.lt (.inr (.inr ⟨e, he, hk⟩)))
    exact ⟨(ho _ (.inl rfl)).trans q1, ownsRow_row q2 fun g hg => ho g (.inr (.inl hg)), ownsRow_row q3 fun g hg => ho g (.inr (.inr hg))⟩
  ok := h.ok
  wf := h.wf
  elWf := h.elWf
theorem TreeAt.grows {w W : World} {L : Ly} {M : Dm} (h : TreeAt w L M) (hg : w.grows W) : TreeAt W L M := h.keep fun _ _ hl => hg.row_eq hl
/-- a tree stays where another thing's blocks are changed -/
theorem TreeAt.chg {w W : World} {L : Ly} {M : Dm} {O O' : Nat → Prop} (h : TreeAt w L M) (hc : Chg O w O' W) (ha : ∀ k, L.own M.els k → ¬ O k) : TreeAt W L M := h.keep fun k hk hl => hc.row k (ha k hk) hl
theorem lit_wf {i : Int} (h : I64 i) : (Lit.int .i64 i).wf = true := by
  unfold Lit.wf
  rw [Bool.and_eq_true]
  exact ⟨decide_eq_true (show (-9223372036854775808 : Int) ≤ i from h.1), decide_eq_true (show i ≤ (9223372036854775807 : Int) from h.2)⟩
theorem zero_elem (w : World) : (zeroValue 52).run Tryz.prog w = .ok (.pointer none) w := Tryz.zeroValue52 w
theorem TreeAt.look {w : World} {L : Ly} {M : Dm} (h : TreeAt w L M) (i : Int) (hi : I64 i) : (Instr.lookup 43 (.map (some L.mb)) (.int .i64 i) false).run Tryz.prog w = .ok (mvOf L M i) w := by
  obtain ⟨c, D, _, h1, h2, _⟩ := h.map
  obtain ⟨v, ps, hrun, hv⟩ := h1.lookup (int_keyed Tryz.underlying3) Tryz.underlying43 (zero_elem w) (zd := nilP) (zp := []) rfl (keyOf_int_mk Tryz.underlying3 (lit_wf hi))
  rw [h2.2] at hv
  unfold heldP at hv
  simp only [Option.some.injEq, Prod.mk.injEq, DataW.held.injEq] at hv
  rw [hrun, hv.1]
end Go.Proofs.YtdbddnkjiehaiaaGreat

/- WALKS over dom: Root, Len, Next, depth, SetBox. No condition but that a tree stands in memory. -/
namespace Go.Proofs.YtdbddnkjiehaiaaGreat
open Go.Maps Go.RowKit

set_option maxRecDepth 100000 in
set_option maxHeartbeats 4000000 in
theorem domRoot_any (w : World) (L : Ly) (M : Dm) (h : TreeAt w L M) : Calls Tryz.prog 24 #[.pointer (some ⟨L.t, 0, none⟩)] w fun e w' => e = .returned (.int .i64 M.root) ∧ w' = w := by
  have hx := h.head
  have zx := row_sz' hx
  clear h
  go_enter Tryz.func24, Tryz.ntmps24
  go_wp2_with fail
  go_ret
  exact ⟨rfl, rfl⟩
set_option maxRecDepth 100000 in
set_option maxHeartbeats 4000000 in
theorem domNext_any (w : World) (L : Ly) (M : Dm) (h : TreeAt w L M) : Calls Tryz.prog 27 #[.pointer (some ⟨L.t, 0, none⟩)] w fun e w' => e = .returned (.int .i64 M.next) ∧ w' = w := by
  have hx := h.head
  have zx := row_sz' hx
  clear h
  go_enter Tryz.func27, Tryz.ntmps27
  go_wp2_with fail
  go_ret
  exact ⟨rfl, rfl⟩
set_option maxRecDepth 100000 in
set_option maxHeartbeats 4000000 in
theorem domLen_any (w : World) (L : Ly) (M : Dm) (h : TreeAt w L M) : Calls Tryz.prog 26 #[.pointer (some ⟨L.t, 0, none⟩)] w fun e w' => e = .returned (.int .i64 M.els.length) ∧ w' = w := by
  have hx := h.head
  have zx := row_sz' hx
  obtain ⟨c, D, _, h1, h2, _, h3⟩ := h.map
  have HO := Lib.hid h1; have HS := Lib.hid h3
  clear h h1 h3
  go_enter Tryz.func26, Tryz.ntmps26
  go_wp2_with (at_len; go_loud (refine wpList_len_own _ rfl _ 43 rfl 3 52 Tryz.underlying43 heldP L.mb c D rfl HO.out ?_))
  go_ret
  exact ⟨by rw [HS.out]; rfl, rfl⟩
/-- how deep, by a rank -/
def Rank (M : Dm) (dep : Int → Nat) : Prop := dep M.root = 1 ∧ (∀ e ∈ M.els, e.id ≠ M.root → dep e.id = dep e.p + 1) ∧ ∀ e ∈ M.els, dep e.id ≤ 32

set_option maxRecDepth 100000 in
set_option maxHeartbeats 4000000 in
theorem domDepth_any (w : World) (L : Ly) (M : Dm) (h : TreeAt w L M) (hp : M.Par) (e : El) (he : e ∈ M.els) : Calls Tryz.prog 13 #[.pointer (some ⟨L.t, 0, none⟩), .int .i64 e.id] w fun r w' => r = .returned (.int .i64 (M.deep 32 e.id)) ∧ w' = w := by
  obtain ⟨dep, d1, d2, d3⟩ := h.wf.dep
  rw [Dm.deep_rank h.wf hp d1 d2 32 e he (d3 e he)]
  have hx := h.head
  have zx := row_sz' hx
  have HT := Lib.hid h
  have HP := Lib.hid hp
  have HD := Lib.hid (⟨d1, d2, d3⟩ : Rank M dep)
  have hid := (h.elWf e he).1
  clear h hp d1 d2 d3
  go_enter Tryz.func13, Tryz.ntmps13
  go_wp2_with fail
  go_loopg [1, 5] (dep e.id) (fun gn v1 v5 wj => ∃ f, Hid (f ∈ M.els ∧ gn = dep f.id) ∧ v1 = .int .i64 f.id ∧ wj = w ∧ ∃ k : Nat, v5 = .int .i64 k ∧ Hid (k + dep f.id = dep e.id + 1 ∧ k ≤ 32))
  case atStart => exact ⟨e, Lib.hid ⟨he, rfl⟩, by go_num, rfl, 1, by go_num, Lib.hid ⟨by omega, by omega⟩⟩
  case round =>
    obtain ⟨f, HF, rfl, rfl, k, rfl, HK⟩ := hrel
    obtain ⟨hf, _⟩ := HF.out
    obtain ⟨k1, k2⟩ := HK.out
    by_cases hr : f.id = M.root
    · have e1 : dep f.id = 1 := by rw [hr]; exact HD.out.1
      have e2 : k = dep e.id := by omega
      subst e2
      go_wp2_with fail
      go_ret
      exact ⟨rfl, rfl⟩
    · have e1 := HD.out.2.1 f hf hr
      obtain ⟨g, hg, hgp, _⟩ := HP.out f hf hr
      have hat : M.at f.id = some f := findE_of HT.out.wf.up hf
      have hlk := HT.out.look f.id (HT.out.elWf f hf).1
      unfold mvOf at hlk
      rw [hat] at hlk
      simp only at hlk
      have hrow := (HT.out.els f hf).1
      have zr := row_sz' hrow
      have e3 := HD.out.2.2 e he
      have hb : ((f.id == M.root) = false) := by simpa using hr
      go_wp2_with fail
      go_roundg (dep g.id)
      case rel => exact ⟨g, Lib.hid ⟨hg, rfl⟩, by rw [hgp], rfl, k + 1, by go_num, Lib.hid ⟨by rw [hgp]; omega, by have : 1 ≤ dep f.p := (by rw [← hgp]; have := HD.out.1; by_cases hq : g.id = M.root; rw [hq]; omega; have := HD.out.2.1 g hg hq; omega); omega⟩⟩
      case measure => rw [hgp]; omega
end Go.Proofs.YtdbddnkjiehaiaaGreat

/- WALKS over dom: SetBox. No condition but that a tree stands in memory. -/
namespace Go.Proofs.YtdbddnkjiehaiaaGreat
open Go.Maps Go.RowKit
theorem Ly.own_upd {L : Ly} {l : List El} {id : Int} {f : El → El} (hf : ∀ e, (f e).id = e.id) (k : Nat) : L.own (updE l id f) k ↔ L.own l k := by
  have q : ∀ e : El, (if e.id = id then f e else e).id = e.id := fun e => by split; exact hf e; rfl
  unfold Ly.own
  refine or_congr Iff.rfl (or_congr Iff.rfl ?_)
  constructor
  · rintro ⟨x, hx, h⟩
    obtain ⟨e, he, rfl⟩ := updE_mem.1 hx
    rw [q] at h
    exact ⟨e, he, h⟩
  · rintro ⟨e, he, h⟩
    exact ⟨_, updE_mem.2 ⟨e, he, rfl⟩, by rw [q]; exact h⟩
theorem findE_upd {l : List El} {id : Int} {f : El → El} (hf : ∀ e, (f e).id = e.id) (i : Int) : findE (updE l id f) i = (findE l i).map fun e => if e.id = id then f e else e := by
  have q : ∀ e : El, (if e.id = id then f e else e).id = e.id := fun e => by split; exact hf e; rfl
  unfold findE updE
  rw [List.find?_map]
  congr 2
  funext e
  simp [q]
theorem mvOf_upd {L : Ly} {M : Dm} {id : Int} {f : El → El} (hf : ∀ e, (f e).id = e.id) (i : Int) : mvOf L ⟨M.root, M.next, updE M.els id f⟩ i = mvOf L M i := by
  unfold mvOf Dm.at
  rw [findE_upd hf]
  cases findE M.els i <;> rfl
/-- one element's own cells are changed, its rows are not -/
theorem TreeAt.upd {w W : World} {L : Ly} {M : Dm} (h : TreeAt w L M) {e : El} (he : e ∈ M.els) (f : El → El) (h1 : ∀ e, (f e).id = e.id) (h2 : ∀ e, (f e).p = e.p) (h3 : ∀ e, (f e).ks = e.ks) (h4 : ∀ e, (f e).at' = e.at') (hfw : (f e).Wf)
    (hr : W.row (L.bl e.id) = some (.cells (elC L (f e)).toArray 49)) (ho : ∀ k, k ≠ L.bl e.id → k < w.heap.size → W.row k = w.row k) : TreeAt W L ⟨M.root, M.next, updE M.els e.id f⟩ := by
  have ne : ∀ k, L.tg k ≠ (e.id, 0) → k ≠ L.bl e.id := fun k hk hh => hk (by rw [hh]; exact (h.ok.2.2 e he).1)
  have hne1 : (-1 : Int) ≠ e.id := by have := (h.wf.low e he).1; omega
  have hne2 : (-1 : Int) ≠ e.id := hne1
  refine ⟨?_, ?_, ?_, ?_, h.wf.upd e.id f h1 h2 h3, ?_⟩
  · exact (ho _ (ne _ (by rw [h.ok.1]; intro hh; injection hh with hh _; exact hne1 hh)) (row_sz' h.head).1).trans h.head
  · obtain ⟨c, D, q1, q2, q3, q5, q4⟩ := h.map
    refine ⟨c, D, q1, ownsMap_row q2 (ho _ (ne _ (by rw [h.ok.2.1]; intro hh; injection hh with hh _; exact hne1 hh)) q2.lt), ⟨q3.1, fun i => by rw [mvOf_upd h1]; exact q3.2 i⟩, fun i => by rw [q5 i]; unfold Dm.at; rw [findE_upd h1]; cases findE M.els i <;> rfl, by simpa [updE] using q4⟩
  · intro x hx
    obtain ⟨y, hy, rfl⟩ := updE_mem.1 hx
    obtain ⟨q1, q2, q3⟩ := h.els y hy
    obtain ⟨t1, t2, t3⟩ := h.ok.2.2 y hy
    have ok : ∀ g, (L.kv y.id).ownBlock = some g → W.row g = w.row g := fun g hg => ho g (ne g (by rw [t2 g hg]; intro hh; injection hh with _ hh; cases hh)) (q2.lt g hg).2
    have oa : ∀ g, (L.av y.id).ownBlock = some g → W.row g = w.row g := fun g hg => ho g (ne g (by rw [t3 g hg]; intro hh; injection hh with _ hh; cases hh)) (q3.lt g hg).2
    by_cases hye : y.id = e.id
    · obtain rfl := ids_inj h.wf.up hy he hye
      rw [if_pos rfl]
      refine ⟨?_, ?_, ?_⟩
      · rw [h1]; exact hr
      · rw [h1, h3]; exact ownsRow_row q2 ok
      · rw [h1, h4]; exact ownsRow_row q3 oa
    · rw [if_neg hye]
      refine ⟨(ho _ (ne _ (by rw [t1]; intro hh; injection hh with hh _; exact hye hh)) (row_sz' q1).1).trans q1, ownsRow_row q2 ok, ownsRow_row q3 oa⟩
  · refine ⟨h.ok.1, h.ok.2.1, fun x hx => ?_⟩
    obtain ⟨y, hy, rfl⟩ := updE_mem.1 hx
    have q : (if y.id = e.id then f y else y).id = y.id := by split; exact h1 y; rfl
    rw [q]; exact h.ok.2.2 y hy
  · intro x hx
    obtain ⟨y, hy, rfl⟩ := updE_mem.1 hx
    by_cases hye : y.id = e.id
    · obtain rfl := ids_inj h.wf.up hy he hye
      rw [if_pos rfl]; exact hfw
    · rw [if_neg hye]; exact h.elWf y hy
theorem On.chg {g : Nat} {O O' : Nat → Prop} {w W : World} (h : On g w W) (hg : O g) (hs : ∀ k, O' k → O k) : Chg O w O' W := ⟨fun k hk => .inl (hs k hk), fun k hk hl => h.row k (fun e => hk (by rw [e]; exact hg)) hl, h.size, fun w00 h1 h2 => h.gr w00 (h1 g hg) h2⟩
/-- how an edit ends: its answer, and the tree it leaves -/
def Edit (w : World) (L : Ly) (M M' : Dm) (v : Value) (e : Ending) (w' : World) : Prop := e = .returned v ∧ ∃ L' : Ly, L'.t = L.t ∧ Chg (L.own M.els) w (L'.own M'.els) w' ∧ TreeAt w' L' M'

set_option maxRecDepth 100000 in
set_option maxHeartbeats 4000000 in
theorem domBox_any (w : World) (L : Ly) (M : Dm) (h : TreeAt w L M) (id : Int) (b : Bx) (hi : I64 id) (hb : b.Wf) : Calls Tryz.prog 34 #[.pointer (some ⟨L.t, 0, none⟩), .int .i64 id, .agg #[.int .i64 b.ty, .string b.nm, .int .i64 b.a, .int .i64 b.b, .int .i64 b.c, .int .i64 b.d]] w (Edit w L M (M.box id b (boxB b.ty b.nm.data.toList b.a b.b b.c b.d)).2 (.int .i64 (M.box id b (boxB b.ty b.nm.data.toList b.a b.b b.c b.d)).1)) := by
  have hx := h.head
  have zx := row_sz' hx
  have hlk := fun W (hW : w.grows W) => (h.grows hW).look id hi
  have HT := Lib.hid h
  obtain ⟨ty, nm, b1, b2, b3, b4⟩ := b
  have hb' := hb
  obtain ⟨w0, w1, w2, w3, w4, w5⟩ := hb'
  have hmb := fun W => mayBox_any ty nm b1 b2 b3 b4 W w1 w2.1 w2.2 w3.1 w3.2 w4.1 w4.2 w5.1 w5.2
  simp only at hmb ⊢
  have HB := Lib.hid hb
  unfold mvOf at hlk
  cases hat : M.at id with
  | none =>
    rw [hat] at hlk
    simp only at hlk
    have hbx : M.box id ⟨ty, nm, b1, b2, b3, b4⟩ (boxB ty nm.data.toList b1 b2 b3 b4) = (5, M) := by unfold Dm.box; rw [hat]
    rw [hbx]
    have hlk0 := hlk (w.alloc (.cells #[.int .i64 ty, .string nm, .int .i64 b1, .int .i64 b2, .int .i64 b3, .int .i64 b4] 38)) (by repeat (with_reducible first | assumption | exact grA | apply grB | apply grC | apply grD | refine grE ?_ (by omega) _ | refine grF ?_ (by omega) _ _))
    clear hlk hmb hb h hbx w0 w1 w2 w3 w4 w5
    go_enter Tryz.func34, Tryz.ntmps34
    go_wp2_with fail
    go_ret
    exact ⟨rfl, L, rfl, (Chg.refl _ w).grow (by repeat (with_reducible first | assumption | exact grA | apply grB | apply grC | apply grD | refine grE ?_ (by omega) _ | refine grF ?_ (by omega) _ _)), HT.out.grows (by repeat (with_reducible first | assumption | exact grA | apply grB | apply grC | apply grD | refine grE ?_ (by omega) _ | refine grF ?_ (by omega) _ _))⟩
  | some e0 =>
    rw [hat] at hlk
    simp only at hlk
    obtain ⟨he, rfl⟩ := findE_some hat
    have hlk0 := hlk (w.alloc (.cells #[.int .i64 ty, .string nm, .int .i64 b1, .int .i64 b2, .int .i64 b3, .int .i64 b4] 38)) (by repeat (with_reducible first | assumption | exact grA | apply grB | apply grC | apply grD | refine grE ?_ (by omega) _ | refine grF ?_ (by omega) _ _))
    have hrow := (HT.out.els e0 he).1
    have zr := row_sz' hrow
    clear hlk hb h w0 w1 w2 w3 w4 w5
    cases hok : boxB ty nm.data.toList b1 b2 b3 b4 with
    | false =>
      rw [hok] at hmb
      have hbx : M.box e0.id ⟨ty, nm, b1, b2, b3, b4⟩ false = (8, M) := by unfold Dm.box; rw [hat]; rfl
      rw [hbx]
      have HMB := Lib.hid hmb
      clear hmb hbx hok
      go_enter Tryz.func34, Tryz.ntmps34
      go_wp2_with (go_at_call 41; (with_reducible refine (HMB.out _).mono ?_); rintro e w1 ⟨rfl, x1, rfl⟩)
      go_ret
      exact ⟨rfl, L, rfl, (Chg.refl _ w).grow (by repeat (with_reducible first | assumption | exact grA | apply grB | apply grC | apply grD | refine grE ?_ (by omega) _ | refine grF ?_ (by omega) _ _)), HT.out.grows (by repeat (with_reducible first | assumption | exact grA | apply grB | apply grC | apply grD | refine grE ?_ (by omega) _ | refine grF ?_ (by omega) _ _))⟩
    | true =>
      rw [hok] at hmb
      have hbx : M.box e0.id ⟨ty, nm, b1, b2, b3, b4⟩ true = (0, ⟨M.root, M.next, updE M.els e0.id fun e => { e with bx := ⟨ty, nm, b1, b2, b3, b4⟩ }⟩) := by unfold Dm.box; rw [hat]; rfl
      rw [hbx]
      have HMB := Lib.hid hmb
      clear hmb hbx hok
      go_enter Tryz.func34, Tryz.ntmps34
      go_wp2_with (go_at_call 41; (with_reducible refine (HMB.out _).mono ?_); rintro e w1 ⟨rfl, x1, rfl⟩)
      go_ret
      have hon := On.grow (W := ((((((((w.setCell ⟨L.bl e0.id, 5, none⟩ (.int .i64 ty)).setCell ⟨L.bl e0.id, 6, none⟩ (.string nm)).setCell ⟨L.bl e0.id, 7, none⟩ (.int .i64 b1)).setCell ⟨L.bl e0.id, 8, none⟩ (.int .i64 b2)).setCell ⟨L.bl e0.id, 9, none⟩ (.int .i64 b3)).setCell ⟨L.bl e0.id, 10, none⟩ (.int .i64 b4)).alloc (.cells #[.int .i64 ty, .string nm, .int .i64 b1, .int .i64 b2, .int .i64 b3, .int .i64 b4] 38)).plus x1)) (((((((On.refl (L.bl e0.id) w).set 5 (.int .i64 ty)).set 6 (.string nm)).set 7 (.int .i64 b1)).set 8 (.int .i64 b2)).set 9 (.int .i64 b3)).set 10 (.int .i64 b4)) (by repeat (with_reducible first | assumption | exact World.grows.refl | apply World.grows.plus | apply World.grows.alloc))
      refine ⟨rfl, L, rfl, On.chg hon (.inr (.inr ⟨e0, he, .inl rfl⟩)) (fun k hk => (Ly.own_upd (f := fun e => { e with bx := ⟨ty, nm, b1, b2, b3, b4⟩ }) (fun _ => rfl) k).1 hk), HT.out.upd he _ (fun _ => rfl) (fun _ => rfl) (fun _ => rfl) (fun _ => rfl) ?_ ?_ hon.row⟩
      · have hw := HT.out.elWf e0 he
        exact ⟨hw.1, hw.2.1, hw.2.2.1, hw.2.2.2.1, hw.2.2.2.2.1, HB.out, hw.2.2.2.2.2.2⟩
      · simp [go_sem, hrow, zr]
end Go.Proofs.YtdbddnkjiehaiaaGreat

/- WALKS over dom: New. No condition. -/
namespace Go
open Go.Maps
/-- an entry of a map's literal, as an update -/
theorem wpList_insert_own {H : Type} {P : Program} (w : World) {ops : Array Oper} {rest : List Oper} {o : Oper} {a : Act} {Q : Exit → Act → World → Prop}
    (hg : o.guard = none) (m x v : Operand) (t : TypeId) (hop : o.op = Op.insert t m x v)
    (k e : TypeId) (K : Keyed P k) (ht : P.underlying t = some (.map k e)) (R : Value → Option (DataW H × List MemPlace)) (b n : Nat) (D : DataW H)
    (hm : a.eval m = .map (some b)) (hown : w.ownsMap P k R b n D) (hn : n < maxLen) (key val : Value) (kl : Lit) (hx : a.eval x = key) (hv : a.eval v = val) (hkey : keyOf P k key = some kl)
    (d : DataW H) (ps : List MemPlace) (hval : R val = some (d, ps))
    (hK : ∀ w', w'.ownsMap P k R b (n + 1) (D.put kl d) → w.grownBy w' (some b) → wpList P ops Q rest (a.put o.dst undef) w') :
    wpList P ops Q (o :: rest) a w := by
  refine wpList_plain hg fun K' hK' => ?_
  obtain ⟨w', hrun, r1, r2⟩ := hown.update K ht hn hkey hval
  unfold Oper.wp
  simp [execOp, hop, hm, hx, hv, hrun, Result.andThen]
  exact hK' _ _ (hK w' r1 r2)
end Go
namespace Go.Proofs.YtdbddnkjiehaiaaGreat
open Go.Maps Go.RowKit
set_option maxRecDepth 100000 in
set_option maxHeartbeats 4000000 in
theorem domFresh0 (w : World) : Calls Tryz.prog 44 #[] w (Gives w (.agg #[.int .i64 0, .string { data := #[] }, .int .i64 0, .int .i64 1, .int .i64 0, .int .i64 1])) := by
  go_enter Tryz.func44, Tryz.ntmps44
  go_wp2_with (first | ((with_reducible show bodyPost _ _ _ _ _ _); exact ret_38 rfl rfl (by simp [go_sem]) rfl ⟨by simp [go_sem], (by repeat (first | exact grA | apply grB | apply grC | apply grD))⟩))
theorem domFresh_any (w : World) : Calls Tryz.prog 44 #[] w (Gives w (.agg #[.int .i64 0, .string ByteArray.empty, .int .i64 0, .int .i64 1, .int .i64 0, .int .i64 1])) := domFresh0 w
theorem i64s {n : Int} (h1 : -100 ≤ n) (h2 : n ≤ 100) : I64 n := ⟨by omega, by omega⟩
/-- the tree of a root -/
def newM (tag : ByteArray) : Dm := ⟨0, 1, [⟨0, -1, tag, [], [], plainBx⟩]⟩
theorem newM_wf (tag : ByteArray) : (newM tag).Wf := by
  refine ⟨by simp [newM], ?_, by simp [newM], by simp [newM], ?_, ?_, ?_, ?_⟩
  · intro e he; simp [newM] at he; subst he; simp [newM]
  · exact ⟨_, List.mem_singleton.2 rfl, rfl, rfl⟩
  · intro e he k hk; simp [newM] at he; subst he; simp at hk
  · intro e he; simp [newM] at he; subst he; simp
  · refine ⟨fun _ => 1, rfl, ?_, ?_⟩
    · intro e he hr; simp [newM] at he; subst he; exact (hr rfl).elim
    · intro e he; show (1 : Nat) ≤ 32; omega
theorem newM_par (tag : ByteArray) : (newM tag).Par := fun e he hr => by simp [newM] at he; subst he; exact (hr rfl).elim
/-- where the tree of a root lies -/
def newL (b e t : Nat) : Ly := ⟨t, b, fun _ => e, fun _ => .slice none 0 0, fun _ => .slice none 0 0, fun g => if g = t then (-1, 0) else if g = b then (-1, 1) else (0, 0)⟩
theorem new_at {W : World} {tag : ByteArray} {b e t n : Nat} {D : DataW Value} (ht : tag.size ≤ maxLen) (h1 : W.row t = some (.cells #[.map (some b), .int .i64 0, .int .i64 1] 45)) (h2 : W.ownsMap Tryz.prog 3 heldP b n D) (hn : n ≤ 1) (hD : D = (DataW.map []).put (.int .i64 0) (.held (.pointer (some ⟨e, 0, none⟩))))
    (h3 : W.row e = some (.cells #[.int .i64 0, .int .i64 (-1), .string tag, .slice none 0 0, .slice none 0 0, .int .i64 0, .string ByteArray.empty, .int .i64 0, .int .i64 1, .int .i64 0, .int .i64 1] 49)) (d1 : b ≠ t) (d2 : e ≠ t) (d3 : e ≠ b) : TreeAt W (newL b e t) (newM tag) := by
  have hk0 : WideAt.IsKeyLit (.int .i64 0) := by first | exact trivial | exact .inl ⟨_, rfl⟩ | simp [WideAt.IsKeyLit]
  have hat : ∀ i, (newM tag).at i = if i = 0 then some ⟨0, -1, tag, [], [], plainBx⟩ else none := fun i => by
    unfold Dm.at findE newM
    by_cases hi : i = 0
    · subst hi; simp
    · have : ¬ (0 : Int) = i := fun h => hi h.symm
      simp [hi, this]
  refine ⟨h1, ⟨n, D, by show (n : Int) ≤ 1; omega, h2, ⟨h2.tidy (int_keyed Tryz.underlying3) |>.isMap, fun i => ?_⟩, fun i => ?_, ?_⟩, ?_, ?_, newM_wf tag, ?_⟩
  · subst hD
    unfold mvOf
    rw [hat]
    by_cases hi : i = 0
    · subst hi; rw [atKey_put_same ⟨_, rfl⟩ hk0]; simp [newL]
    · have ne : (Lit.int .i64 i) ≠ .int .i64 0 := fun x => hi (by injection x)
      rw [atKey_put_other ne]; simp [hi]; rfl
  · subst hD
    rw [hat]
    by_cases hi : i = 0
    · subst hi; rw [has_put_same ⟨_, rfl⟩ hk0]; simp
    · have ne : (Lit.int .i64 i) ≠ .int .i64 0 := fun x => hi (by injection x)
      rw [has_put_other ne]; simp [hi]; rfl
  · subst hD
    rw [size_put tidy_empty]; rfl
  · intro x hx
    simp [newM] at hx
    subst hx
    exact ⟨h3, World.ownsRow_nil _ _ _ _, World.ownsRow_nil _ _ _ _⟩
  · refine ⟨by simp [newL], by simp [newL, d1], fun x hx => ?_⟩
    simp [newM] at hx
    subst hx
    exact ⟨by simp [newL, d2, d3], fun g hg => (by cases hg), fun g hg => (by cases hg)⟩
  · intro x hx
    simp [newM] at hx
    subst hx
    exact ⟨i64s (n := 0) (by decide) (by decide), i64s (n := -1) (by decide) (by decide), ht, fun k hk => (by cases hk), fun x hx => (by cases hx), ⟨i64s (n := 0) (by decide) (by decide), (by decide +kernel : ByteArray.empty.size ≤ maxLen), i64s (n := 0) (by decide) (by decide), i64s (n := 1) (by decide) (by decide), i64s (n := 0) (by decide) (by decide), i64s (n := 1) (by decide) (by decide)⟩, Nat.zero_le _, Nat.zero_le _⟩

set_option maxRecDepth 100000 in
set_option maxHeartbeats 4000000 in
theorem domNew_any (w : World) (tag : ByteArray) (hs : tag.size ≤ maxLen) : Calls Tryz.prog 20 #[.string tag] w fun e w' => w.grows w' ∧ ((nameB tag.data.toList = false ∧ e = .returned (.tuple #[.pointer none, .int .i64 10])) ∨ (nameB tag.data.toList = true ∧ ∃ L : Ly, e = .returned (.tuple #[.pointer (some ⟨L.t, 0, none⟩), .int .i64 0]) ∧ TreeAt w' L (newM tag) ∧ ∀ k, L.own (newM tag).els k → w.heap.size ≤ k)) := by
  have hm := fun W => mayName_any tag W hs
  have hmk := fun (W : World) => run_makeMap (P := Tryz.prog) 43 W
  cases hn : nameB tag.data.toList with
  | false =>
    rw [hn] at hm
    have HM := Lib.hid hm
    clear hm
    go_enter Tryz.func20, Tryz.ntmps20
    go_wp2_with (go_at_call 40; (with_reducible refine (HM.out _).mono ?_); rintro e w1 ⟨rfl, x1, rfl⟩)
    go_ret2
    refine ⟨(by repeat (with_reducible first | assumption | exact grA | apply grB | apply grC | apply grD | refine grE ?_ (by omega) _ | refine grF ?_ (by omega) _ _)), .inl ⟨?_, rfl⟩⟩
    first | trivial | rfl | exact hn
  | true =>
    rw [hn] at hm
    have HM := Lib.hid hm
    clear hm
    go_enter Tryz.func20, Tryz.ntmps20
    go_upto_region 3 with (go_at_call 40; (with_reducible refine (HM.out _).mono ?_); rintro e w1 ⟨rfl, x1, rfl⟩)
    have hg1 : w.grows (w.plus x1) := (by repeat (with_reducible first | assumption | exact grA | apply grB | apply grC | apply grD | refine grE ?_ (by omega) _ | refine grF ?_ (by omega) _ _))
    generalize w.plus x1 = w1 at *
    have hs1 := hg1.below.size
    go_wp2_with (first | (go_at_call 44; (with_reducible refine (domFresh_any _).mono ?_); rintro e w1 ⟨rfl, x1, rfl⟩) | (refine wpList_insert_own _ rfl (.tmp 8) (.const (.int .i64 0)) (.tmp 12) 43 rfl 3 52 (int_keyed Tryz.underlying3) Tryz.underlying43 heldP w1.heap.size 0 (.map []) rfl (ownsMap_row (World.ownsMap_made w1 _ _ _) (World.grows.row_eq (by repeat (with_reducible first | assumption | exact grA | apply grB | apply grC | apply grD | refine grE ?_ (by omega) _ | refine grF ?_ (by omega) _ _)) (by simp))) (by decide) _ _ (.int .i64 0) rfl rfl (keyOf_int_mk Tryz.underlying3 (lit_wf (i64s (by decide) (by decide)))) _ [] rfl ?_; intro w5 hown5 hgr5))
    go_ret2
    have q0 : w.grows (((w1.alloc (Obj.map #[] 0)).plus x1).alloc (.cells #[.int .i64 0, .int .i64 (-1), .string tag, .slice none 0 0, .slice none 0 0, .int .i64 0, .string ByteArray.empty, .int .i64 0, .int .i64 1, .int .i64 0, .int .i64 1] 49)) := (by repeat (with_reducible first | assumption | exact grA | apply grB | apply grC | apply grD | refine grE ?_ (by omega) _ | refine grF ?_ (by omega) _ _))
    have q1 : w.grows w5 := World.grows.grown q0 hgr5 (fun k hk => by cases hk; omega)
    have q2 := hgr5.size
    simp at q2
    have q3 : w5.row (w1.heap.size + 1 + x1.bs.size) = some (.cells #[.int .i64 0, .int .i64 (-1), .string tag, .slice none 0 0, .slice none 0 0, .int .i64 0, .string ByteArray.empty, .int .i64 0, .int .i64 1, .int .i64 0, .int .i64 1] 49) := World.row_grown hgr5 (by simp [go_sem]) (fun hh => by injection hh with hh; omega)
    refine ⟨World.grows.alloc q1 _, .inr ⟨trivial, newL w1.heap.size (w1.heap.size + 1 + x1.bs.size) w5.heap.size, rfl, ?_, ?_⟩⟩
    · refine new_at (n := 0 + 1) hs (by simp [go_sem, newL]) (ownsMap_row hown5 (World.grows.row_eq (World.grows.alloc World.grows.refl _) hown5.lt)) (by omega) rfl ((World.grows.row_eq (World.grows.alloc World.grows.refl _) (row_sz' q3).1).trans q3) (by omega) (by omega) (by omega)
    · rintro k (rfl | rfl | ⟨x, hx, hk⟩)
      · show w.heap.size ≤ w5.heap.size; omega
      · show w.heap.size ≤ w1.heap.size; omega
      · rcases hk with rfl | hk | hk
        · show w.heap.size ≤ w1.heap.size + 1 + x1.bs.size; omega
        · cases hk
        · cases hk
end Go.Proofs.YtdbddnkjiehaiaaGreat

/- WALKS over dom: copied. No condition but that what is copied stands in memory. -/
namespace Go
open Go.RowKit
abbrev AtR (x : ByteArray × ByteArray) (cs : List Value) : Prop := cs = [Value.string x.1, Value.string x.2]
theorem at_news {W : World} {a : Option Addr} {c : Nat} {l : List (ByteArray × ByteArray)} (h : SlAt W (fun _ => True) 2 AtR (.slice a l.length c) l) : (atC l).length = l.length * 2 ∧ (l.length = 0 ∨ ∃ ad, a = some ad ∧ ∀ j u, (atC l)[j]? = some u → W.cell? (ad.add j) = some u) := by
  obtain ⟨_, _, h1, h2⟩ := h.newsC (by omega) (fun x : ByteArray × ByteArray => [Value.string x.1, Value.string x.2]) fun x cs hx => hx
  exact ⟨h1, h2.imp (fun e => by rw [e]; rfl) id⟩
theorem at_one (l : List (ByteArray × ByteArray)) : ∀ u ∈ atC l, u.oneCell' = true := fun u hu => by
  obtain ⟨x, _, hx⟩ := List.mem_flatMap.1 hu
  simp only [List.mem_cons, List.not_mem_nil, or_false] at hx
  rcases hx with rfl | rfl <;> simp [Value.oneCell']
theorem int_news {W : World} {a : Option Addr} {c : Nat} {l : List Int} (h : IntsAt W (.slice a l.length c) l) : (l.map (Value.int .i64)).length = l.length * 1 ∧ (l.length = 0 ∨ ∃ ad, a = some ad ∧ ∀ j u, (l.map (Value.int .i64))[j]? = some u → W.cell? (ad.add j) = some u) := by
  obtain ⟨_, h2⟩ := h.news
  exact ⟨by simp, h2.imp (fun e => by rw [e]; rfl) id⟩
theorem int_one (l : List Int) : ∀ u ∈ l.map (Value.int .i64), u.oneCell' = true := fun u hu => by
  obtain ⟨x, _, rfl⟩ := List.mem_map.1 hu; simp [Value.oneCell']
theorem at_slat {W : World} {B : Nat} {e : TypeId} {v : Value} {l : List (ByteArray × ByteArray)} (h : W.ownsRow B e 2 v l.length (atC l)) : SlAt W (fun _ => True) 2 AtR v l := own_slat (by omega) (fun x : ByteArray × ByteArray => [Value.string x.1, Value.string x.2]) (fun _ _ => ⟨rfl, rfl⟩) h
theorem World.row_grow {w w' : World} {row : Option Nat} (hg : w.grownBy w' row) {k : Nat} (hk : k < w.heap.size) (hne : some k ≠ row) : w'.row k = w.row k := by
  unfold World.row
  rw [hg.block k hk hne]
theorem ownsRow_grow {w w' : World} {B : Nat} {e : TypeId} {n k : Nat} {v : Value} {xs : List Value} (h : w.ownsRow B e n v k xs) {row : Option Nat} (hg : w.grownBy w' row) (hr : ∀ g, v.ownBlock = some g → some g ≠ row) : w'.ownsRow B e n v k xs := by
  have hlt := h.lt
  refine ⟨h.1, ?_⟩
  rcases h.2 with hn | ⟨g, cap, cur, rfl, hb, hgg, rest⟩
  · exact .inl hn
  · refine .inr ⟨g, cap, cur, rfl, hb, ?_, rest⟩
    rw [hg.block g (hlt g rfl).2 (hr g rfl)]; exact hgg
end Go
namespace Go.Proofs.YtdbddnkjiehaiaaGreat
open Go.Maps Go.RowKit

set_option maxRecDepth 100000 in
set_option maxHeartbeats 4000000 in
theorem domCopied_any (w : World) (e : El) (ka aa : Option Addr) (kc ac : Nat) (hk : IntsAt w (.slice ka e.ks.length kc) e.ks) (ha : SlAt w (fun _ => True) 2 AtR (.slice aa e.at'.length ac) e.at') (h1 : e.ks.length ≤ 1000) (h2 : e.at'.length ≤ 1000) :
    Calls Tryz.prog 11 #[.agg #[.int .i64 e.id, .int .i64 e.p, .string e.tag, .slice ka e.ks.length kc, .slice aa e.at'.length ac, .int .i64 e.bx.ty, .string e.bx.nm, .int .i64 e.bx.a, .int .i64 e.bx.b, .int .i64 e.bx.c, .int .i64 e.bx.d]] w fun r w' => ∃ (ka' aa' : Option Addr) (kc' ac' : Nat), r = .returned (.agg #[.int .i64 e.id, .int .i64 e.p, .string e.tag, .slice ka' e.ks.length kc', .slice aa' e.at'.length ac', .int .i64 e.bx.ty, .string e.bx.nm, .int .i64 e.bx.a, .int .i64 e.bx.b, .int .i64 e.bx.c, .int .i64 e.bx.d]) ∧ w.grows w' ∧
      w'.ownsRow w.heap.size 3 1 (.slice ka' e.ks.length kc') e.ks.length (e.ks.map (Value.int .i64)) ∧ w'.ownsRow w.heap.size 71 2 (.slice aa' e.at'.length ac') e.at'.length (atC e.at') := by
  have HK := Lib.hid hk; have HA := Lib.hid ha
  clear hk ha
  obtain ⟨id, p, tag, ks, at', ty, nm, a, b, c, d⟩ := e
  simp only at *
  go_enter Tryz.func11, Tryz.ntmps11
  go_upto_region 1 with fail
  go_wp2_with (first
    | ((at_builtin; refine wpList_appS w (w.heap.size + 2) rfl (.const (.slice none 0 0)) (.tmp 8) _ rfl 71 (.agg #[.string ByteArray.empty, .string ByteArray.empty]) 2 32 Tryz.underlying47 (by kernel_rfl) rfl (by omega) (by omega) _ 0 _ rfl (World.ownsRow_nil _ _ _ _) _ at'.length _ (atC at') rfl (at_news (HA.out.grows (World.grows.refl (w := w)) fun _ _ _ h => h)).1 (at_news (HA.out.grows (by repeat (with_reducible first | assumption | exact grA | apply grB | apply grC | apply grD | refine grE ?_ (by omega) _ | refine grF ?_ (by omega) _ _)) fun _ _ _ h => h)).2 (at_one _) (by omega) (by repeat (with_reducible first | assumption | exact grA | apply grB | apply grC | apply grD | refine grE ?_ (by omega) _ | refine grF ?_ (by omega) _ _)) (by omega) (by simp <;> omega) ?_; intro v' w' hg' HO' HR' HG' HA'); obtain ⟨a2, c2, rfl⟩ := own_slice HO'.out; have q3 : w'.row w.heap.size = some (.cells #[.int .i64 id, .int .i64 p, .string tag, .slice a1 (0 + ks.length) c1, .slice aa at'.length ac, .int .i64 ty, .string nm, .int .i64 a, .int .i64 b, .int .i64 c, .int .i64 d] 49) := (HR'.out _ (by omega)).trans (by simp [go_sem, q1, z1]); have q4 : w'.row (w.heap.size + 1) = some (.cells #[.int .i64 0, .int .i64 0, .string { data := #[] }, .slice none 0 0, .slice none 0 0, .int .i64 0, .string { data := #[] }, .int .i64 0, .int .i64 0, .int .i64 0, .int .i64 0] 49) := (HR'.out _ (by omega)).trans (by simp [go_sem, q2, z2]); have z3 := row_sz' q3; have z4 := row_sz' q4)
    | ((at_builtin; refine wpList_appS w (w.heap.size + 2) rfl (.const (.slice none 0 0)) (.tmp 4) _ rfl 3 (.int .i64 0) 1 8 Tryz.underlying46 (by kernel_rfl) rfl (by omega) (by omega) _ 0 _ rfl (World.ownsRow_nil _ _ _ _) _ ks.length _ (ks.map (Value.int .i64)) rfl (by simp) (int_news (HK.out.grow (by repeat (with_reducible first | assumption | exact grA | apply grB | apply grC | apply grD | refine grE ?_ (by omega) _ | refine grF ?_ (by omega) _ _)))).2 (int_one _) (by omega) (by repeat (with_reducible first | assumption | exact grA | apply grB | apply grC | apply grD | refine grE ?_ (by omega) _ | refine grF ?_ (by omega) _ _)) (by omega) (by simp <;> omega) ?_; intro v' w' hg' HO' HR' HG' HA'); obtain ⟨a1, c1, rfl⟩ := own_slice HO'.out; have q1 : w'.row w.heap.size = some (.cells #[.int .i64 id, .int .i64 p, .string tag, .slice ka ks.length kc, .slice aa at'.length ac, .int .i64 ty, .string nm, .int .i64 a, .int .i64 b, .int .i64 c, .int .i64 d] 49) := (HR'.out _ (by omega)).trans (by simp [go_sem]); have q2 : w'.row (w.heap.size + 1) = some (.cells #[.int .i64 0, .int .i64 0, .string { data := #[] }, .slice none 0 0, .slice none 0 0, .int .i64 0, .string { data := #[] }, .int .i64 0, .int .i64 0, .int .i64 0, .int .i64 0] 49) := (HR'.out _ (by omega)).trans (by simp [go_sem]); have z1 := row_sz' q1; have z2 := row_sz' q2; have HO1 := HO'; have hg1 := hg'; clear HO' HR' HG' HA' hg'; generalize w' = wA at *)
    | ((with_reducible show bodyPost _ _ _ _ _ _); refine ret_49 rfl rfl (by simp [go_sem, q3, q4, z3, z4]) rfl ?_))
  refine ⟨a1, a2, c1, c2, by simp [go_sem, q3, q4, z3, z4], (by repeat (with_reducible first | assumption | exact grA | apply grB | apply grC | apply grD | refine grE ?_ (by omega) _ | refine grF ?_ (by omega) _ _)), ?_, ?_⟩
  · have h := World.ownsRow.mono_base (B := w.heap.size) (by omega) HO1.out
    rw [Nat.zero_add, List.nil_append] at h
    refine ownsRow_row h fun g hg => ?_
    have hl := HO1.out.lt g (by rw [Nat.zero_add]; exact hg)
    rw [World.row_setRow, if_neg (by omega), World.row_setCell, if_neg (by omega)]
    refine (World.row_grow HG'.out (by simp; omega) (fun h => nomatch (show some g = none from h))).trans ?_
    rw [World.row_setCell, if_neg (by omega)]
  · have h := World.ownsRow.mono_base (B := w.heap.size) (by omega) HO'.out
    rw [Nat.zero_add, List.nil_append] at h
    refine ownsRow_row h fun g hg => ?_
    have hl := HO'.out.lt g (by rw [Nat.zero_add]; exact hg)
    rw [World.row_setRow, if_neg (by omega), World.row_setCell, if_neg (by omega)]
end Go.Proofs.YtdbddnkjiehaiaaGreat

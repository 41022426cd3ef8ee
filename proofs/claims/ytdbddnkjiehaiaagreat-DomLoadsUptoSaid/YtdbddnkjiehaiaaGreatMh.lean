/- Texts of the walk, one after the other; what each proves stands ahead of it. -/
import Derived.Lib.SliceRun
import Derived.Maps.AppendAt
import Derived.Shelf.Spec.SlicesInsertGrow
import Derived.Test.YtdbddnkjiehaiaaGreatAppN
import Derived.Test.YtdbddnkjiehaiaaGreatLaysD
import Derived.Test.YtdbddnkjiehaiaaGreatMd
set_option linter.unusedSimpArgs false
set_option linter.unusedVariables false
/- LAWS: a row of the call's own, of elements of n cells: one element put in, one taken out. No condition; laws over any program. -/
namespace Go
open Go.RowKit
/-- a list with another laid over it from a place on -/
def layL (l : List Value) (o : Nat) (vs : List Value) : List Value := l.take o ++ vs ++ l.drop (o + vs.length)
theorem layL_nil (l : List Value) (o : Nat) : layL l o [] = l := by simp [layL]
theorem layL_cons (l : List Value) (o : Nat) (v : Value) (r : List Value) (h : o < l.length) : layL (l.set o v) (o + 1) r = layL l o (v :: r) := by
  obtain ⟨a, c, b, rfl, rfl⟩ : ∃ a c b, l = a ++ c :: b ∧ o = a.length := ⟨l.take o, l[o], l.drop (o + 1), by simp, by simp; omega⟩
  unfold layL
  have e1 : (a ++ c :: b).set a.length v = (a ++ [v]) ++ b := by simp
  have e2 : (a ++ c :: b) = (a ++ [c]) ++ b := by simp
  rw [e1]
  have t1 : (a ++ [v] ++ b).take (a.length + 1) = a ++ [v] := by rw [List.take_append_of_le_length (by simp), List.take_of_length_le (by simp)]
  have t2 : (a ++ [v] ++ b).drop (a.length + 1 + r.length) = b.drop r.length := by
    rw [← List.drop_drop]; congr 1
    rw [show a.length + 1 = (a ++ [v]).length by simp, List.drop_left]
  have t3 : (a ++ c :: b).take a.length = a := List.take_left
  have t4 : (a ++ c :: b).drop (a.length + (v :: r).length) = b.drop r.length := by
    rw [e2, show a.length + (v :: r).length = (a.length + 1) + r.length by simp; omega, ← List.drop_drop]; congr 1
    rw [show a.length + 1 = (a ++ [c]).length by simp, List.drop_left]
  rw [t1, t2, t3, t4]; simp
theorem layL_len (l : List Value) (o : Nat) (vs : List Value) (h : o + vs.length ≤ l.length) : (layL l o vs).length = l.length := by
  unfold layL; simp; omega
theorem row_lay (g : Nat) : ∀ (vs : List Value) (o : Nat) (w : World) (cur : List Value) (e : TypeId) (fr : Nat × Nat), w.row g = some (.cells cur.toArray e fr) → o + vs.length ≤ cur.length → (w.setCells g o vs).row g = some (.cells (layL cur o vs).toArray e fr)
  | [], o, w, cur, e, fr, h, _ => by rw [layL_nil]; exact h
  | v :: r, o, w, cur, e, fr, h, hl => by
    simp only [List.length_cons] at hl
    rw [World.setCells, ← layL_cons cur o v r (by omega)]
    refine row_lay g r (o + 1) _ (cur.set o v) e fr ?_ (by rw [List.length_set]; omega)
    rw [World.row_setCell, if_pos rfl, h]
    simp [setR]
theorem row_layO (g k : Nat) (hk : k ≠ g) : ∀ (vs : List Value) (o : Nat) (w : World), (w.setCells g o vs).row k = w.row k
  | [], _, _ => rfl
  | v :: r, o, w => by rw [World.setCells, row_layO g k hk r, World.row_setCell, if_neg hk]
theorem grownBy_cell (w : World) (g i : Nat) (v : Value) : w.grownBy (w.setCell ⟨g, i, none⟩ v) (some g) :=
  ⟨rfl, rfl, rfl, by simp [World.setCell], fun k hk hne => by
    have := World.row_setCell w g i k v
    rw [if_neg (fun e => hne (by rw [e]))] at this
    exact this⟩
theorem grownBy_lay (g : Nat) : ∀ (vs : List Value) (o : Nat) (w : World), w.grownBy (w.setCells g o vs) (some g)
  | [], _, w => World.grownBy.refl w _
  | v :: r, o, w => (grownBy_cell w g o v).trans (grownBy_lay g r (o + 1) _)
theorem size_lay (g : Nat) : ∀ (vs : List Value) (o : Nat) (w : World), (w.setCells g o vs).heap.size = w.heap.size
  | [], _, _ => rfl
  | v :: r, o, w => by rw [World.setCells, size_lay g r]; simp [World.setCell]
theorem lay2 (cur : List Value) (p q : Nat) (news C : List Value) (h1 : p + news.length = q) (h2 : q ≤ cur.length) : layL (layL cur q C) p news = cur.take p ++ news ++ (C ++ cur.drop (q + C.length)) := by
  have e : layL cur q C = cur.take q ++ (C ++ cur.drop (q + C.length)) := by simp [layL]
  rw [e]
  have t1 : (cur.take q ++ (C ++ cur.drop (q + C.length))).take p = cur.take p := by
    rw [List.take_append_of_le_length (by simp; omega), List.take_take, Nat.min_eq_left (by omega)]
  have t2 : (cur.take q ++ (C ++ cur.drop (q + C.length))).drop q = C ++ cur.drop (q + C.length) := by
    have : q = (cur.take q).length := by simp; omega
    conv => lhs; arg 1; rw [this]
    exact List.drop_left
  conv => lhs; unfold layL
  rw [t1, h1, t2]
theorem lay3 (cur : List Value) (p q : Nat) (news C : List Value) (h1 : p + news.length = q) (h2 : q ≤ cur.length) : layL (layL cur p news) q C = cur.take p ++ news ++ (C ++ cur.drop (q + C.length)) := by
  have e : layL cur p news = (cur.take p ++ news) ++ cur.drop q := by simp [layL, h1]
  have hl : (cur.take p ++ news).length = q := by simp; omega
  rw [e]
  conv => lhs; unfold layL
  rw [← List.drop_drop]
  conv => lhs; rw [← hl]
  rw [List.take_left, List.drop_left, hl, List.drop_drop]
  simp
theorem lay4 (cur : List Value) (p r : Nat) (C zs : List Value) (h1 : p + C.length = r) (h2 : r ≤ cur.length) : (layL (layL cur p C) r zs).take r = cur.take p ++ C := by
  have e : layL cur p C = (cur.take p ++ C) ++ cur.drop r := by simp [layL, h1]
  have hl : (cur.take p ++ C).length = r := by simp; omega
  rw [e]
  unfold layL
  conv => lhs; rw [← hl]
  rw [List.take_left, List.append_assoc, List.take_left]
theorem arr_list (c : Array Value) : c = c.toList.toArray := by simp
/-- room: an element put in -/
theorem own_ins {w W : World} {B n g k cap i : Nat} {e : TypeId} {xs news : List Value} (h : w.ownsRow B e n (.slice (some ⟨g, 0, none⟩) k cap) k xs) (hnl : news.length = n) (hi : i ≤ k) (hroom : k + 1 ≤ cap) (hW : W.row g = w.row g) :
    ((W.setCells g ((i + 1) * n) (xs.drop (i * n))).setCells g (i * n) news).ownsRow B e n (.slice (some ⟨g, 0, none⟩) (k + 1) cap) (k + 1) (xs.take (i * n) ++ news ++ xs.drop (i * n)) := by
  obtain ⟨hl, ⟨h0, _⟩ | ⟨g', cap', cur, h0, hb, hg, hnc, hcm, hcs, ht⟩⟩ := h
  · cases h0
  injection h0 with h0 _ hc
  injection h0 with h0
  injection h0 with h0
  subst h0; subst hc
  have m1 : i * n ≤ k * n := Nat.mul_le_mul_right n hi
  have m2 : (k + 1) * n ≤ cap * n := Nat.mul_le_mul_right n hroom
  rw [Nat.add_mul, Nat.one_mul] at m2
  have hrow : W.row g = some (.cells cur.toList.toArray e (0, 0)) := hW.trans (by rw [← arr_list]; exact hg)
  have hcl : cur.toList.length = cap * n := by simpa using hcs
  have hdl : (xs.drop (i * n)).length = k * n - i * n := by rw [List.length_drop, hl]
  have e1 : (i + 1) * n = i * n + n := by rw [Nat.add_mul, Nat.one_mul]
  have r1 := row_lay g (xs.drop (i * n)) ((i + 1) * n) W _ e (0, 0) hrow (by rw [hdl, hcl, e1]; omega)
  have r2 := row_lay g news (i * n) _ _ e (0, 0) r1 (by rw [layL_len _ _ _ (by rw [hdl, hcl, e1]; omega), hcl, hnl]; omega)
  rw [lay2 _ _ _ _ _ (by rw [hnl, e1]) (by rw [hcl, e1]; omega)] at r2
  have ht2 : cur.toList.take (i * n) = xs.take (i * n) := by rw [← ht, List.take_take, Nat.min_eq_left m1]
  rw [ht2] at r2
  have hlen : (xs.take (i * n) ++ news ++ xs.drop (i * n)).length = (k + 1) * n := by
    simp only [List.length_append, List.length_take, hdl, hnl, hl, Nat.add_mul, Nat.one_mul]; omega
  refine ⟨hlen, .inr ⟨g, cap, _, rfl, hb, r2, hroom, hcm, ?_, ?_⟩⟩
  · simp only [List.size_toArray, List.length_append, List.length_take, List.length_drop, hl, hnl, hcl, e1]; omega
  · show List.take _ (xs.take (i * n) ++ news ++ (xs.drop (i * n) ++ _)) = _
    rw [← List.append_assoc, ← hlen]; exact List.take_left
/-- no room: a new row -/
theorem own_insN {W : World} {B n NB k G i : Nat} {e : TypeId} {xs news Z : List Value} (hl : xs.length = k * n) (hnl : news.length = n) (hi : i ≤ k) (hG : k + 1 ≤ G) (hGm : G ≤ maxLen) (hB : B ≤ NB) (hZ : (xs.take (i * n) ++ Z).length = G * n)
    (hW : W.row NB = some (.cells (xs.take (i * n) ++ Z).toArray e (0, 0))) :
    ((W.setCells NB (i * n) news).setCells NB ((i + 1) * n) (xs.drop (i * n))).ownsRow B e n (.slice (some ⟨NB, 0, none⟩) (k + 1) G) (k + 1) (xs.take (i * n) ++ news ++ xs.drop (i * n)) := by
  have m1 : i * n ≤ k * n := Nat.mul_le_mul_right n hi
  have m2 : (k + 1) * n ≤ G * n := Nat.mul_le_mul_right n hG
  rw [Nat.add_mul, Nat.one_mul] at m2
  have hdl : (xs.drop (i * n)).length = k * n - i * n := by rw [List.length_drop, hl]
  have e1 : (i + 1) * n = i * n + n := by rw [Nat.add_mul, Nat.one_mul]
  have r1 := row_lay NB news (i * n) W _ e (0, 0) hW (by rw [hZ, hnl]; omega)
  have r2 := row_lay NB (xs.drop (i * n)) ((i + 1) * n) _ _ e (0, 0) r1 (by rw [layL_len _ _ _ (by rw [hZ, hnl]; omega), hZ, hdl, e1]; omega)
  rw [lay3 _ _ _ _ _ (by rw [hnl, e1]) (by rw [hZ, e1]; omega)] at r2
  have ht2 : (xs.take (i * n) ++ Z).take (i * n) = xs.take (i * n) := by
    have : (xs.take (i * n)).length = i * n := by rw [List.length_take, hl]; omega
    rw [List.take_append_of_le_length (by omega), List.take_take, Nat.min_self]
  rw [ht2] at r2
  have hlen : (xs.take (i * n) ++ news ++ xs.drop (i * n)).length = (k + 1) * n := by
    simp only [List.length_append, List.length_take, hdl, hnl, hl, Nat.add_mul, Nat.one_mul]; omega
  refine ⟨hlen, .inr ⟨NB, G, _, rfl, hB, r2, hG, hGm, ?_, ?_⟩⟩
  · simp only [List.size_toArray, List.length_append, List.length_take, List.length_drop, hl, hnl, e1]
    simp only [List.length_append, List.length_take, hl] at hZ
    omega
  · show List.take _ (xs.take (i * n) ++ news ++ (xs.drop (i * n) ++ _)) = _
    rw [← List.append_assoc, ← hlen]; exact List.take_left
/-- an element taken out -/
theorem own_del {w W : World} {B n g k cap i : Nat} {e : TypeId} {xs zs : List Value} (h : w.ownsRow B e n (.slice (some ⟨g, 0, none⟩) k cap) k xs) (hi : i < k) (hz : zs.length = n) (hW : W.row g = w.row g) :
    ((W.setCells g (i * n) (xs.drop ((i + 1) * n))).setCells g ((k - 1) * n) zs).ownsRow B e n (.slice (some ⟨g, 0, none⟩) (k - 1) cap) (k - 1) (xs.take (i * n) ++ xs.drop ((i + 1) * n)) := by
  obtain ⟨hl, ⟨h0, _⟩ | ⟨g', cap', cur, h0, hb, hg, hnc, hcm, hcs, ht⟩⟩ := h
  · cases h0
  injection h0 with h0 _ hc
  injection h0 with h0
  injection h0 with h0
  subst h0; subst hc
  have e1 : (i + 1) * n = i * n + n := by rw [Nat.add_mul, Nat.one_mul]
  have e2 : k * n = (k - 1) * n + n := by
    obtain ⟨j, rfl⟩ : ∃ j, k = j + 1 := ⟨k - 1, by omega⟩
    rw [Nat.add_sub_cancel, Nat.add_mul, Nat.one_mul]
  have m1 : i * n ≤ (k - 1) * n := Nat.mul_le_mul_right n (by omega)
  have m2 : k * n ≤ cap * n := Nat.mul_le_mul_right n hnc
  have hrow : W.row g = some (.cells cur.toList.toArray e (0, 0)) := hW.trans (by rw [← arr_list]; exact hg)
  have hcl : cur.toList.length = cap * n := by simpa using hcs
  have hdl : (xs.drop ((i + 1) * n)).length = k * n - (i * n + n) := by rw [List.length_drop, hl, e1]
  have r1 := row_lay g (xs.drop ((i + 1) * n)) (i * n) W _ e (0, 0) hrow (by rw [hdl, hcl]; omega)
  have r2 := row_lay g zs ((k - 1) * n) _ _ e (0, 0) r1 (by rw [layL_len _ _ _ (by rw [hdl, hcl]; omega), hcl, hz]; omega)
  have ht2 : cur.toList.take (i * n) = xs.take (i * n) := by rw [← ht, List.take_take, Nat.min_eq_left (by omega)]
  refine ⟨by simp only [List.length_append, List.length_take, hdl, hl]; omega, .inr ⟨g, cap, _, rfl, hb, r2, by omega, hcm, ?_, ?_⟩⟩
  · rw [List.size_toArray, layL_len _ _ _ (by rw [layL_len _ _ _ (by rw [hdl, hcl]; omega), hcl, hz]; omega), layL_len _ _ _ (by rw [hdl, hcl]; omega), hcl]
  · show List.take _ (layL _ _ _) = _
    rw [lay4 _ _ _ _ _ (by rw [hdl]; omega) (by rw [hcl]; omega), ht2]
theorem run_copy_cellsN {P : Program} (w : World) (dT sT ty elem : TypeId) (size b o dLen dCap : Nat) (a : Addr) (sLen sCap : Nat) (cs : List Value)
    (hu : P.underlying dT = some (.slice elem)) (hs : (P.info? elem).map (·.size) = some size) (m : Nat) (hm : m = Nat.min sLen dLen) (hn : cs.length = m * size)
    (hsrc : ∀ j v, cs[j]? = some v → w.cell? (a.add j) = some v) (hc : ∀ j, j < cs.length → (w.cell? ⟨b, o + j, none⟩).isSome = true) (hf : ∀ j, j < cs.length → w.frozen? ⟨b, o + j, none⟩ = false) (h1 : ∀ v ∈ cs, v.oneCell' = true) :
    (Builtin.copy_ #[dT, sT] ty #[.slice (some ⟨b, o, none⟩) dLen dCap, .slice (some a) sLen sCap]).run P w = .ok (goInt m) (w.setCells b o cs) := by
  have hl := run_loadCells_list (P := P) w a cs hsrc
  have hst := run_storeCells_cells (P := P) b o cs 0 w (by simpa using hc) (by simpa using hf) h1
  rw [hn] at hl
  cases hq : P.info? elem with
  | none => simp [hq] at hs
  | some i =>
    have hi : i.size = size := by simpa [hq] using hs
    simp [Builtin.copy_, run_underlying hu, Builtin.lenOf, Builtin.firstCells, sizeOf, typeInfo, hq, hi, ← hm, hl, hst]
theorem zeroCells_len (zc : Array Value) (n : Nat) : (Builtin.zeroCells zc n).toList.length = n * zc.size := by simp [Builtin.zeroCells]
theorem zeroCells_one {zc : Array Value} (h : ∀ u ∈ zc.toList, u.oneCell' = true) (n : Nat) : ∀ u ∈ (Builtin.zeroCells zc n).toList, u.oneCell' = true := fun u hu => by
  unfold Builtin.zeroCells at hu
  simp at hu
  obtain ⟨a, ha, rfl⟩ := hu
  have hp : 0 < zc.size := by
    rcases Nat.eq_zero_or_pos zc.size with h0 | h0
    · rw [h0] at ha; omega
    · exact h0
  have hlt : a % zc.size < zc.size := Nat.mod_lt _ hp
  rw [getElem!_pos zc _ hlt]
  exact h _ (by simp)
theorem run_clear_sliceN {P : Program} (w : World) (t e ty : TypeId) (z : Value) (ht : P.underlying t = some (.slice e)) (hv : ∀ w, (zeroValue e).run P w = .ok z w) (h1 : ∀ u ∈ z.cells.toList, u.oneCell' = true) (b o n c : Nat) (hn : 0 < n)
    (hc : ∀ j, j < n * z.cells.size → (w.cell? ⟨b, o + j, none⟩).isSome = true) (hf : ∀ j, j < n * z.cells.size → w.frozen? ⟨b, o + j, none⟩ = false) :
    (Builtin.clear_ #[t] ty #[.slice (some ⟨b, o, none⟩) n c]).run P w = .ok (.tuple #[]) (w.setCells b o (Builtin.zeroCells z.cells n).toList) := by
  have hst := run_storeCells_cells (P := P) b o (Builtin.zeroCells z.cells n).toList 0 w (by rw [zeroCells_len]; simpa using hc) (by rw [zeroCells_len]; simpa using hf) (zeroCells_one h1 n)
  simp only [Nat.add_zero] at hst
  obtain ⟨m, rfl⟩ : ∃ m, n = m + 1 := ⟨n - 1, by omega⟩
  simp [Builtin.clear_, run_underlying ht, hv, hst]
end Go

/- WALKS: slices.Insert and slices.Delete over attributes. No condition but that the row is the call's own. -/
namespace Go.Proofs.YtdbddnkjiehaiaaGreat
open Go.Maps Go.RowKit Go.Lib

set_option maxRecDepth 100000 in
set_option maxHeartbeats 4000000 in
theorem insA_shift (g c k i vb m vc : Nat) (cs vs : List Value) (w : World) (hi : i < k) (hm : 0 < m) (hroom : k + m ≤ c) (hc63 : c ≤ 9223372036854775807) (hvb : vb ≠ g) (hcl : cs.length = k * 2) (hvl : vs.length = m * 2)
    (hcs : ∀ j v, cs[j]? = some v → w.cell? ⟨g, j, none⟩ = some v) (hsp : ∀ j, j < (k + m) * 2 → (w.cell? ⟨g, j, none⟩).isSome = true) (hfz : ∀ j, j < (k + m) * 2 → w.frozen? ⟨g, j, none⟩ = false)
    (hvs : ∀ j v, vs[j]? = some v → w.cell? ⟨vb, j, none⟩ = some v) (h1c : ∀ v ∈ cs, v.oneCell' = true) (h1v : ∀ v ∈ vs, v.oneCell' = true)
    (tA tB : TypeId) (kA kB : Nat) (hsa : w.shape? vb = some (tA, kA)) (hsb : w.shape? g = some (tB, kB)) (hkB : kB ≠ 0) (hfa : w.frozen? ⟨vb, 0, none⟩ = false) (hfe : w.frozen? ⟨vb, kA, none⟩ = false) :
    Calls Tryz.prog 54 #[.slice (some ⟨g, 0, none⟩) k c, .int .i64 i, .slice (some ⟨vb, 0, none⟩) m vc] w fun e w' =>
      e = .returned (.slice (some ⟨g, 0, none⟩) (k + m) c) ∧ w' = (w.drew.setCells g ((i + m) * 2) (cs.drop (i * 2))).setCells g (i * 2) vs := by
  have hz1 : ¬ ((m : Int) = 0) := by omega
  have hz2 : ¬ ((i : Int) = (k : Int)) := by omega
  have mixed : Tryz.prog.follows .mixedOrders = true := by kernel_rfl
  have hsz : (Tryz.prog.info? 71).map (·.size) = some 2 := by kernel_rfl
  have hov : ∀ lb cb, (callFunc 68 #[.slice (some ⟨vb, 0, none⟩) m vc, .slice (some ⟨g, (i + m) * 2, none⟩) lb cb]).run Tryz.prog w = .ok (.value (.bool false)) w := fun lb cb => by
    rw [run_callFunc_extern Tryz.func68 (by kernel_rfl) (by kernel_rfl) (by kernel_rfl) (e := Extern.SlicesOverlaps.overlaps #[47, 47] #[4]) (by kernel_rfl),
      Lib.run_overlaps_apart w 47 4 71 Tryz.underlying47 2 Tryz.sizeOf71 ⟨vb, 0, none⟩ ⟨g, (i + m) * 2, none⟩ m vc lb cb hvb tA tB kA kB hsa hsb hkB hfa hfe]
    rfl
  have hdl : (cs.drop (i * 2)).length = (k - i) * 2 := by rw [List.length_drop, hcl]; omega
  have hw1 : IntKind.i64.wrap ((i : Int) + (m : Int)) = (i : Int) + (m : Int) := by rw [IntKind.wrap_i64]; omega
  have hb1 : (0 : Int) ≤ (i : Int) + (m : Int) := by omega
  have hin : i ≤ k := by omega
  have htn : ((i : Int) + (m : Int)).toNat = i + m := by omega
  have hb2 : ¬ (c = i + m) := by omega
  have hb3 : (i : Int) ≤ (k : Int) + (m : Int) := by omega
  have hb4 : ¬ (c = i) := by omega
  have hcp1 : ∀ ty dc sc, (Builtin.copy_ #[47, 47] ty #[.slice (some ⟨g, (i + m) * 2, none⟩) (k + m - (i + m)) dc, .slice (some ⟨g, i * 2, none⟩) (k + m - i) sc]).run Tryz.prog w.drew = .ok (goInt ((k - i : Nat) : Int)) (w.drew.setCells g ((i + m) * 2) (cs.drop (i * 2))) := fun ty dc sc =>
    run_copy_cellsN w.drew _ _ ty 71 2 g ((i + m) * 2) (k + m - (i + m)) dc ⟨g, i * 2, none⟩ (k + m - i) sc (cs.drop (i * 2)) Tryz.underlying47 hsz (k - i) (by simp only [Nat.min_def]; split <;> omega) hdl
      (fun j v hj => by rw [Addr.add_lit]; exact hcs (i * 2 + j) v (by rwa [List.getElem?_drop] at hj))
      (fun j hj => hsp _ (by rw [hdl] at hj; omega)) (fun j hj => hfz _ (by rw [hdl] at hj; omega)) (fun v hv => h1c v (List.mem_of_mem_drop hv))
  obtain ⟨W1, hW1⟩ : ∃ W1, W1 = w.drew.setCells g ((i + m) * 2) (cs.drop (i * 2)) := ⟨_, rfl⟩
  have hsp1 : ∀ j, j < (k + m) * 2 → (W1.cell? ⟨g, j, none⟩).isSome = true := fun j hj => by
    rw [hW1]
    exact isSome_setCells g (cs.drop (i * 2)) ((i + m) * 2) w.drew (fun j hj => hsp _ (by rw [hdl] at hj; omega)) _ (hsp j hj)
  have hcp2 : ∀ (W : World), (∀ x, W.cell? x = W1.cell? x) → (∀ x, W.frozen? x = W1.frozen? x) → ∀ ty dc, (Builtin.copy_ #[47, 47] ty #[.slice (some ⟨g, i * 2, none⟩) (k + m - i) dc, .slice (some ⟨vb, 0, none⟩) m vc]).run Tryz.prog W = .ok (goInt m) (W.setCells g (i * 2) vs) := fun W hWc hWf ty dc =>
    run_copy_cellsN W _ _ ty 71 2 g (i * 2) (k + m - i) dc ⟨vb, 0, none⟩ m vc vs Tryz.underlying47 hsz m (by simp only [Nat.min_def]; split <;> omega) hvl
      (fun j v hj => by
        rw [Addr.add_lit, hWc, hW1, World.cell?_setCells_out g _ _ _ _ (fun h _ => absurd h hvb), Nat.zero_add]
        exact hvs j v hj)
      (fun j hj => by rw [hWc]; exact hsp1 _ (by rw [hvl] at hj; omega)) (fun j hj => by rw [hWf, hW1, World.frozen?_setCells]; exact hfz _ (by rw [hvl] at hj; omega)) h1v
  rw [← hW1] at hcp1
  clear hcs hsp hfz hvs h1c h1v hsa hsb hfa hfe hsp1 hdl
  go_enter Tryz.func54, Tryz.ntmps54
  go_wp2_with (simp only [hov])
  go_region_law_o (refine step_copy_runI rfl _ _ 47 47 rfl _ _ (by simp [Act.eval, Act.put]) (by simp [Act.eval, Act.put]) (hcp1 _ _ _) ?_)
  go_wp2_with (at_builtin; refine wpList_copy_runI _ rfl _ _ 47 47 rfl _ _ rfl rfl (hcp2 _ (fun _ => rfl) (fun _ => rfl) _ _) ?_)
  go_ret
  first | exact ⟨rfl, rfl⟩ | exact ⟨rfl, by rw [hW1]⟩

set_option maxRecDepth 100000 in
set_option maxHeartbeats 4000000 in
theorem insA_grow (g c k i vb m vc : Nat) (cs vs : List Value) (w : World) (hi : i < k) (hm : 0 < m) (hnc : k ≤ c) (hroom : c < k + m) (hbig : (k + m) * 32 ≤ 140737488355328) (hcl : cs.length = k * 2) (hvl : vs.length = m * 2)
    (hcs : ∀ j v, cs[j]? = some v → w.cell? ⟨g, j, none⟩ = some v) (hvs : ∀ j v, vs[j]? = some v → w.cell? ⟨vb, j, none⟩ = some v) (h1c : ∀ v ∈ cs, v.oneCell' = true) (h1v : ∀ v ∈ vs, v.oneCell' = true) :
    Calls Tryz.prog 54 #[.slice (some ⟨g, 0, none⟩) k c, .int .i64 i, .slice (some ⟨vb, 0, none⟩) m vc] w fun e w' => ∃ (G : Nat) (Z : List Value), k + m ≤ G ∧ G ≤ maxLen ∧ (cs.take (i * 2) ++ Z).length = G * 2 ∧
      e = .returned (.slice (some ⟨w.heap.size, 0, none⟩) (k + m) G) ∧ w' = (((w.alloc (.cells (cs.take (i * 2) ++ Z).toArray 71)).drew.setCells w.heap.size (i * 2) vs).drew).setCells w.heap.size ((i + m) * 2) (cs.drop (i * 2)) := by
  have mixed : Tryz.prog.follows .mixedOrders = true := by kernel_rfl
  obtain ⟨i0, hi0, hz0, hzs, hzb⟩ := info_parts (e := 71) (P := Tryz.prog) (z := .agg #[.string ⟨#[]⟩, .string ⟨#[]⟩]) (size := 2) (bytes := 32) (by kernel_rfl)
  have hz1 : ¬ ((m : Int) = 0) := by omega
  have hz2 : ¬ ((i : Int) = (k : Int)) := by omega
  have hz3 : (c : Int) < (k : Int) + (m : Int) := by omega
  have hsz : (Tryz.prog.info? 71).map (·.size) = some 2 := by rw [hi0]; simp [hzs]
  have hbw : g < w.heap.size := block_lt_of_cell (hcs 0 _ (List.getElem?_eq_getElem (by omega)))
  have hvw : vb < w.heap.size := block_lt_of_cell (hvs 0 _ (List.getElem?_eq_getElem (by omega)))
  have hkk : (k : Int) + (m : Int) - (i : Int) = ((k + m - i : Nat) : Int) := by omega
  have hik : i + (k + m - i) = k + m := by omega
  have hold : (Builtin.firstCells i0.size i (.slice (some ⟨g, 0, none⟩) i c)).run Tryz.prog w.drew = .ok (cs.take (i * 2)).toArray w.drew := by
    rw [hzs]
    exact run_firstCells_some w.drew 2 i ⟨g, 0, none⟩ i c (cs.take (i * 2)) (by rw [List.length_take]; omega) (fun j v hj => by
      rw [Addr.add_lit, Nat.zero_add]
      rw [List.getElem?_take] at hj
      split at hj
      · exact hcs j v hj
      · cases hj)
  have hrz : ∀ ty, (Builtin.append_ #[47, 3] ty #[.slice (some ⟨g, 0, none⟩) i c, .int .i64 ((k : Int) + (m : Int) - (i : Int))]).run Tryz.prog w =
      .ok (.slice (some ⟨w.heap.size, 0, none⟩) (k + m) (grownCap w (k + m) c 71)) (w.drew.alloc (.cells ((cs.take (i * 2)).toArray ++ Builtin.zeroCells (Value.agg #[.string ⟨#[]⟩, .string ⟨#[]⟩]).cells (k + m - i) ++ Builtin.zeroCells (Value.agg #[.string ⟨#[]⟩, .string ⟨#[]⟩]).cells (grownCap w (k + m) c 71 - (k + m))) 71)) := fun ty => by
    have h := Lib.run_append_grow_zeros w 47 3 ty 71 i0 _ .i64 .i64 Tryz.underlying47 Tryz.underlying3 hi0 hz0 (some ⟨g, 0, none⟩) i c (cs.take (i * 2)) hold (k + m - i) (by omega) (by omega) (by omega) (by omega) (by rw [hzb]; omega) (by rw [hzb, hik]; exact growslice_fits hroom hbig)
    rw [hik] at h
    rw [hkk]
    exact h
  have hGn : k + m ≤ grownCap w (k + m) c 71 := grownCap_ge w _ _ _
  have hGm : grownCap w (k + m) c 71 ≤ maxLen := grownCap_le_maxLen w (k + m) c 71 (by unfold maxLen; omega)
  generalize grownCap w (k + m) c 71 = G at *
  obtain ⟨Z, hZ⟩ : ∃ Z, Z = (Builtin.zeroCells (Value.agg #[.string ⟨#[]⟩, .string ⟨#[]⟩]).cells (k + m - i)).toList ++ (Builtin.zeroCells (Value.agg #[.string ⟨#[]⟩, .string ⟨#[]⟩]).cells (G - (k + m))).toList := ⟨_, rfl⟩
  have hROW : (cs.take (i * 2)).toArray ++ Builtin.zeroCells (Value.agg #[.string ⟨#[]⟩, .string ⟨#[]⟩]).cells (k + m - i) ++ Builtin.zeroCells (Value.agg #[.string ⟨#[]⟩, .string ⟨#[]⟩]).cells (G - (k + m)) = (cs.take (i * 2) ++ Z).toArray := by
    rw [hZ]; apply Array.toList_inj.1; simp
  rw [hROW] at hrz
  have hRl : (cs.take (i * 2) ++ Z).length = G * 2 := by
    rw [hZ]
    simp only [List.length_append, List.length_take, zeroCells_len, hcl]
    show min (i * 2) (k * 2) + ((k + m - i) * 2 + (G - (k + m)) * 2) = G * 2
    omega
  generalize hRR : cs.take (i * 2) ++ Z = ROW at *
  clear hROW hZ
  obtain ⟨W1, hW1⟩ : ∃ W1, W1 = w.drew.alloc (.cells ROW.toArray 71) := ⟨_, rfl⟩
  rw [← hW1] at hrz
  have hN : ∀ j, j < (k + m) * 2 → (W1.cell? ⟨w.heap.size, j, none⟩).isSome = true := fun j hj => by
    rw [hW1, World.cell?_alloc_at (w := w.drew) ROW.toArray _ w.heap.size j rfl, Array.getElem?_eq_getElem (by simp; omega)]; rfl
  have hNf : ∀ j, W1.frozen? ⟨w.heap.size, j, none⟩ = false := fun j => by rw [hW1]; exact World.frozen?_alloc_at (w := w.drew) ROW.toArray _ w.heap.size j rfl
  have hOb : ∀ j v, w.cell? ⟨g, j, none⟩ = some v → W1.cell? ⟨g, j, none⟩ = some v := fun j v h => by rw [hW1, World.cell?_alloc_past (w := w.drew) _ g j hbw]; exact h
  have hOv : ∀ j v, w.cell? ⟨vb, j, none⟩ = some v → W1.cell? ⟨vb, j, none⟩ = some v := fun j v h => by rw [hW1, World.cell?_alloc_past (w := w.drew) _ vb j hvw]; exact h
  have hcpA : ∀ (W : World), (∀ x, W.cell? x = W1.cell? x) → (∀ x, W.frozen? x = W1.frozen? x) → ∀ ty dc, (Builtin.copy_ #[47, 47] ty #[.slice (some ⟨w.heap.size, i * 2, none⟩) (k + m - i) dc, .slice (some ⟨vb, 0, none⟩) m vc]).run Tryz.prog W = .ok (goInt m) (W.setCells w.heap.size (i * 2) vs) := fun W hWc hWf ty dc =>
    run_copy_cellsN W _ _ ty 71 2 w.heap.size (i * 2) (k + m - i) dc ⟨vb, 0, none⟩ m vc vs Tryz.underlying47 hsz m (by simp only [Nat.min_def]; split <;> omega) hvl
      (fun j v hj => by rw [Addr.add_lit, hWc, Nat.zero_add]; exact hOv _ v (hvs j v hj))
      (fun j hj => by rw [hWc]; exact hN _ (by rw [hvl] at hj; omega)) (fun j hj => by rw [hWf]; exact hNf _) h1v
  have hG63 : G ≤ 9223372036854775807 := by unfold maxLen at hGm; omega
  have hGi : ¬ (G = i) := by omega
  have hGim : ¬ (G = i + m) := by omega
  have hci : ¬ (c = i) := by omega
  have hbN : g ≠ w.heap.size := by omega
  have hdl : (cs.drop (i * 2)).length = (k - i) * 2 := by rw [List.length_drop, hcl]; omega
  have hcpB : ∀ (W : World), (∀ x, W.cell? x = (W1.setCells w.heap.size (i * 2) vs).cell? x) → (∀ x, W.frozen? x = (W1.setCells w.heap.size (i * 2) vs).frozen? x) → ∀ ty dc sc, (Builtin.copy_ #[47, 47] ty #[.slice (some ⟨w.heap.size, (i + m) * 2, none⟩) (k + m - (i + m)) dc, .slice (some ⟨g, i * 2, none⟩) (k - i) sc]).run Tryz.prog W = .ok (goInt ((k - i : Nat) : Int)) (W.setCells w.heap.size ((i + m) * 2) (cs.drop (i * 2))) := fun W hWc hWf ty dc sc =>
    run_copy_cellsN W _ _ ty 71 2 w.heap.size ((i + m) * 2) (k + m - (i + m)) dc ⟨g, i * 2, none⟩ (k - i) sc (cs.drop (i * 2)) Tryz.underlying47 hsz (k - i) (by simp only [Nat.min_def]; split <;> omega) hdl
      (fun j v hj => by
        rw [Addr.add_lit, hWc, World.cell?_setCells_out _ _ _ _ _ (fun h _ => absurd h hbN)]
        exact hOb _ v (hcs (i * 2 + j) v (by rwa [List.getElem?_drop] at hj)))
      (fun j hj => by rw [hWc]; exact isSome_setCells _ _ _ _ (fun t ht => hN _ (by rw [hvl] at ht; omega)) _ (hN _ (by rw [hdl] at hj; omega)))
      (fun j hj => by rw [hWf, World.frozen?_setCells]; exact hNf _) (fun v hv => h1c v (List.mem_of_mem_drop hv))
  subst hW1
  have hE1 : ∀ x, ((w.alloc (.cells ROW.toArray 71)).drew).cell? x = (w.drew.alloc (.cells ROW.toArray 71)).cell? x := fun x => rfl
  have hE2 : ∀ x, ((w.alloc (.cells ROW.toArray 71)).drew).frozen? x = (w.drew.alloc (.cells ROW.toArray 71)).frozen? x := fun x => rfl
  have hF1 : ∀ x, (((w.alloc (.cells ROW.toArray 71)).drew.setCells w.heap.size (i * 2) vs).drew).cell? x = ((w.drew.alloc (.cells ROW.toArray 71)).setCells w.heap.size (i * 2) vs).cell? x := fun x => rfl
  have hF2 : ∀ x, (((w.alloc (.cells ROW.toArray 71)).drew.setCells w.heap.size (i * 2) vs).drew).frozen? x = ((w.drew.alloc (.cells ROW.toArray 71)).setCells w.heap.size (i * 2) vs).frozen? x := fun x => rfl
  have hw1 : IntKind.i64.wrap ((i : Int) + (m : Int)) = (i : Int) + (m : Int) := by rw [IntKind.wrap_i64]; omega
  have hb1 : (0 : Int) ≤ (i : Int) + (m : Int) := by omega
  have hin : i ≤ k := by omega
  have htn : ((i : Int) + (m : Int)).toNat = i + m := by omega
  have hb3 : (i : Int) ≤ (k : Int) := by omega
  clear hkk hik hold hcs hvs h1c h1v hOb hOv hN hNf hdl
  go_enter Tryz.func54, Tryz.ntmps54
  go_wp2_with (first
    | (at_builtin; refine Lib.wpList_append_run _ rfl _ _ _ _ rfl _ _ rfl rfl _ _ (hrz _) ?_)
    | (at_builtin; refine wpList_copy_runI _ rfl _ _ 47 47 rfl _ _ rfl rfl (hcpA _ hE1 hE2 _ _) ?_)
    | (at_builtin; refine wpList_copy_runI _ rfl _ _ 47 47 rfl _ _ rfl rfl (hcpB _ (fun _ => rfl) (fun _ => rfl) _ _ _) ?_))
  go_region_law_o (refine step_copy_runI rfl _ _ 47 47 rfl (.slice (some ⟨w.heap.size, (i + m) * 2, none⟩) (k + m - (i + m)) (G - (i + m))) (.slice (some ⟨g, i * 2, none⟩) (k - i) (c - i)) (by simp [Act.eval, Act.put]) (by simp [Act.eval, Act.put]) (hcpB _ hF1 hF2 3 (G - (i + m)) (c - i)) ?_)
  go_wp2
  go_ret
  exact ⟨G, Z, hGn, hGm, by rw [hRR]; exact hRl, rfl, by rw [hRR]⟩

set_option maxRecDepth 100000 in
set_option maxHeartbeats 4000000 in
theorem delA_run (g c k i j : Nat) (cs : List Value) (w : World) (hij : i < j) (hj : j ≤ k) (hkc : k ≤ c) (hc63 : c ≤ 9223372036854775807) (hcl : cs.length = k * 2)
    (hcs : ∀ j v, cs[j]? = some v → w.cell? ⟨g, j, none⟩ = some v) (hfz : ∀ j, j < k * 2 → w.frozen? ⟨g, j, none⟩ = false) (h1c : ∀ v ∈ cs, v.oneCell' = true) :
    Calls Tryz.prog 55 #[.slice (some ⟨g, 0, none⟩) k c, .int .i64 i, .int .i64 j] w fun e w' => ∃ zs : List Value, zs.length = (j - i) * 2 ∧
      e = .returned (.slice (some ⟨g, 0, none⟩) (i + (k - j)) c) ∧ w' = (w.drew.setCells g (i * 2) (cs.drop (j * 2))).setCells g ((i + (k - j)) * 2) zs := by
  have mixed : Tryz.prog.follows .mixedOrders = true := by kernel_rfl
  obtain ⟨i0, hi0, hz0, hzs, hzb⟩ := info_parts (e := 71) (P := Tryz.prog) (z := .agg #[.string ⟨#[]⟩, .string ⟨#[]⟩]) (size := 2) (bytes := 32) (by kernel_rfl)
  have hgt : ∀ t, t < k * 2 → ∃ v, w.cell? ⟨g, t, none⟩ = some v := fun t ht => ⟨_, hcs t _ (List.getElem?_eq_getElem (by omega))⟩
  obtain ⟨news, hnews⟩ : ∃ news, news = cs.drop (j * 2) := ⟨_, rfl⟩
  have hlen : news.length = (k - j) * 2 := by rw [hnews, List.length_drop]; omega
  obtain ⟨A, hA, hsrc⟩ : ∃ A : Addr, (if c = j then some (⟨g, 0, none⟩ : Addr) else some ⟨g, j * 2, none⟩) = some A ∧ Hid (∀ t u, news[t]? = some u → w.drew.cell? (A.add t) = some u) := by
    by_cases h : c = j
    · refine ⟨⟨g, 0, none⟩, by simp [h], Lib.hid fun t u hu => ?_⟩
      have h0 : news.length = 0 := by rw [hlen]; omega
      rw [List.length_eq_zero_iff.1 h0] at hu
      simp at hu
    · refine ⟨⟨g, j * 2, none⟩, by simp [h], Lib.hid fun t u hu => ?_⟩
      rw [hnews, List.getElem?_drop] at hu
      rw [Addr.add_lit]
      exact hcs _ u hu
  have s2 : Hid (∀ u ∈ news, u.oneCell' = true) := Lib.hid fun u hu => h1c u (List.mem_of_mem_drop (by rw [hnews] at hu; exact hu))
  have s3 : Hid (∀ t, t < news.length → (w.drew.cell? ⟨g, 0 + i * 2 + t, none⟩).isSome = true ∧ w.drew.frozen? ⟨g, 0 + i * 2 + t, none⟩ = false) := Lib.hid fun t ht => by
    rw [hlen] at ht
    obtain ⟨v, hv⟩ := hgt (i * 2 + t) (by omega)
    rw [Nat.zero_add]
    exact ⟨by show (w.cell? _).isSome = true; rw [hv]; rfl, hfz _ (by omega)⟩
  obtain ⟨W1, hW1⟩ : ∃ W1, W1 = w.drew.setCells g (0 + i * 2) news := ⟨_, rfl⟩
  obtain ⟨zs, hzz⟩ : ∃ zs, zs = (Builtin.zeroCells (Value.agg #[.string ⟨#[]⟩, .string ⟨#[]⟩]).cells (k - (i + (k - j)))).toList := ⟨_, rfl⟩
  have hzl : zs.length = (j - i) * 2 := by
    rw [hzz, zeroCells_len]
    show (k - (i + (k - j))) * 2 = _
    omega
  have hcl' : ∀ ty, (Builtin.clear_ #[47] ty #[.slice (some ⟨g, (i + (k - j)) * 2, none⟩) (k - (i + (k - j))) (c - (i + (k - j)))]).run Tryz.prog W1 = .ok (.tuple #[]) (W1.setCells g ((i + (k - j)) * 2) zs) := fun ty => by
    rw [hzz]
    refine run_clear_sliceN W1 _ 71 ty _ Tryz.underlying47 Tryz.zeroValue71 (by simp [Value.cells, Value.oneCell']) g _ _ _ (by omega) (fun t ht => ?_) (fun t ht => ?_)
    · have ht2 : t < (k - (i + (k - j))) * 2 := ht
      rw [hW1]
      obtain ⟨v, hv⟩ := hgt ((i + (k - j)) * 2 + t) (by omega)
      exact isSome_setCells g news (0 + i * 2) w.drew (fun t ht => (s3.out t ht).1) _ (by show (w.cell? _).isSome = true; rw [hv]; rfl)
    · have ht2 : t < (k - (i + (k - j))) * 2 := ht
      rw [hW1, World.frozen?_setCells]; exact hfz _ (by omega)
  have hW : Hid (W1 = w.drew.setCells g (0 + i * 2) news) := Lib.hid hW1
  have HN := Lib.hid hnews
  have hic : i ≤ c := by omega
  have hjc : j ≤ c := by omega
  have hne : ¬ ((i : Int) = (j : Int)) := by omega
  have hlt0 : i + (k - j) ≤ k := by omega
  have hcn : ¬ (c = i + (k - j)) := by omega
  clear hW1 hgt hcs hfz h1c hnews hzz
  go_enter Tryz.func55, Tryz.ntmps55
  go_wp2_with fail
  go_region_law_o (refine step_append_room rfl (.tmp 22) (.tmp 25) 47 rfl 71 i0 2 Tryz.underlying47 hi0 hzs g 0 i c (by simp [Act.eval, Act.put]) A (k - j) (c - j) news (by simp [Act.eval, Act.put]) hlen hsrc.out s2.out (by omega) s3.out ?_; rw [← hW.out])
  go_wp2
  go_ret
  exact ⟨zs, hzl, rfl, by rw [hW.out, HN.out, Nat.zero_add]⟩
end Go.Proofs.YtdbddnkjiehaiaaGreat

/- WALKS: slices.Insert and slices.Delete of one element, at a row of the call's own: attributes, whole numbers. No condition. -/
namespace Go
open Go.RowKit
theorem grownBy_drew (w : World) (row : Option Nat) : w.grownBy w.drew row := ⟨rfl, rfl, rfl, Nat.le_refl _, fun _ _ _ => rfl⟩
theorem grownBy_far {w W : World} {row : Option Nat} (h : w.grownBy W row) {g : Nat} (hg : w.heap.size ≤ g) (o : Nat) (vs : List Value) : w.grownBy (W.setCells g o vs) row := by
  have k := grownBy_lay g vs o W
  exact ⟨k.os.trans h.os, k.tape.trans h.tape, k.output.trans h.output, Nat.le_trans h.size k.size, fun i hi hne => (k.block i (Nat.lt_of_lt_of_le hi h.size) (fun e => by injection e with e; omega)).trans (h.block i hi hne)⟩
theorem row_shape {w : World} {g : Nat} {cs : Array Value} {t : TypeId} {fr : Nat × Nat} (h : w.row g = some (.cells cs t fr)) : w.shape? g = some (t, cs.size) := by
  unfold World.row at h
  unfold World.shape?
  rw [h]
theorem row_unfrozen {w : World} {g : Nat} {cs : Array Value} {t : TypeId} (h : w.row g = some (.cells cs t (0, 0))) (i : Nat) : w.frozen? ⟨g, i, none⟩ = false := by
  rw [World.frozen?_row, h]; simp [frozenR]
theorem row_cellSome {w : World} {g : Nat} {cs : Array Value} {t : TypeId} {fr : Nat × Nat} (h : w.row g = some (.cells cs t fr)) (i : Nat) (hi : i < cs.size) : (w.cell? ⟨g, i, none⟩).isSome = true := by
  rw [World.cell?_row, h]; show (cs[i]?).isSome = true
  rw [Array.getElem?_eq_getElem hi]; rfl
end Go
namespace Go.Proofs.YtdbddnkjiehaiaaGreat
open Go.Maps Go.RowKit Go.Lib

set_option maxRecDepth 100000 in
set_option maxHeartbeats 4000000 in
theorem insA_end (w : World) (B : Nat) (v : Value) (k vb : Nat) (te : TypeId) (xs news : List Value) (h : w.ownsRow B 71 2 v k xs) (hB : B ≤ w.heap.size) (hk : k ≤ 1000) (hnl : news.length = 2) (hr : w.row vb = some (.cells news.toArray te)) (h1n : ∀ u ∈ news, u.oneCell' = true) :
    Calls Tryz.prog 54 #[v, .int .i64 k, .slice (some ⟨vb, 0, none⟩) 1 1] w fun e w' => ∃ v', e = .returned v' ∧ w'.ownsRow B 71 2 v' (k + 1) (xs ++ news) ∧ w.grownBy w' v.ownBlock ∧ (v'.ownBlock = v.ownBlock ∨ v'.ownBlock = some w.heap.size) := by
  obtain ⟨i0, hi0, hz0, hzs, hzb⟩ := info_parts (e := 71) (P := Tryz.prog) (z := .agg #[.string ⟨#[]⟩, .string ⟨#[]⟩]) (size := 2) (bytes := 32) (by kernel_rfl)
  have hnews := cells_of_row hr
  have HH := Lib.hid h
  rcases h.2 with ⟨rfl, rfl⟩ | ⟨g, cap, cur, rfl, _, _, hnc, hcm, _⟩
  · have HO := Lib.hid h
    clear h
    go_enter Tryz.func54, Tryz.ntmps54
    go_wp2_with (at_builtin; refine wpList_append_own_at (w := w) rfl _ _ 47 rfl B 71 i0 _ 2 32 Tryz.underlying47 hi0 hz0 hzs hzb (by kernel_rfl) (by omega) _ 0 xs rfl HO.out ⟨vb, 0, none⟩ 1 1 news rfl (by rw [hnl]) hnews h1n (by simp only [maxLen]; omega) (by omega) hB ?_; intro v' w' ho' hg' _ hat)
    all_goals (go_ret; exact ⟨_, rfl, ho', hg', hat⟩)
  · have HO := Lib.hid h
    have hc63 : cap ≤ 9223372036854775807 := by unfold maxLen at hcm; omega
    clear h
    go_enter Tryz.func54, Tryz.ntmps54
    go_wp2_with (at_builtin; refine wpList_append_own_at (w := w) rfl _ _ 47 rfl B 71 i0 _ 2 32 Tryz.underlying47 hi0 hz0 hzs hzb (by kernel_rfl) (by omega) _ k xs rfl HO.out ⟨vb, 0, none⟩ 1 1 news rfl (by rw [hnl]) hnews h1n (by simp only [maxLen]; omega) (by omega) hB ?_; intro v' w' ho' hg' _ hat)
    all_goals (go_ret; exact ⟨_, rfl, ho', hg', hat⟩)
/-- slices.Insert of one element -/
theorem insA_any (w : World) (B : Nat) (v : Value) (k i vb : Nat) (te : TypeId) (xs news : List Value) (h : w.ownsRow B 71 2 v k xs) (hB : B ≤ w.heap.size) (hi : i ≤ k) (hk : k ≤ 1000) (hnl : news.length = 2) (hr : w.row vb = some (.cells news.toArray te)) (hne : v.ownBlock ≠ some vb)
    (h1x : ∀ u ∈ xs, u.oneCell' = true) (h1n : ∀ u ∈ news, u.oneCell' = true) :
    Calls Tryz.prog 54 #[v, .int .i64 i, .slice (some ⟨vb, 0, none⟩) 1 1] w fun e w' => ∃ v', e = .returned v' ∧ w'.ownsRow B 71 2 v' (k + 1) (xs.take (i * 2) ++ news ++ xs.drop (i * 2)) ∧ w.grownBy w' v.ownBlock ∧ (v'.ownBlock = v.ownBlock ∨ v'.ownBlock = some w.heap.size) := by
  by_cases hik : i = k
  · subst hik
    have hl : xs.length = i * 2 := h.1
    have e1 : xs.take (i * 2) ++ news ++ xs.drop (i * 2) = xs ++ news := by rw [← hl]; simp
    rw [e1]
    exact insA_end w B v i vb te xs news h hB hk hnl hr h1n
  have hlt : i < k := by omega
  have hl : xs.length = k * 2 := h.1
  have h' := h
  rcases h.2 with ⟨_, h0⟩ | ⟨g, cap, cur, rfl, hbg, hgg, hnc, hcm, hcs, ht⟩
  · omega
  have hc63 : cap ≤ 9223372036854775807 := by unfold maxLen at hcm; omega
  have hgg' : w.row g = some (.cells cur 71 (0, 0)) := hgg
  have hvb : vb ≠ g := fun e => hne (by rw [e]; rfl)
  have hxc : ∀ j v, xs[j]? = some v → w.cell? ⟨g, j, none⟩ = some v := fun j v hj => by
    have := h'.cells (g := g) rfl j v hj
    rwa [Addr.add_lit, Nat.zero_add] at this
  have hvc : ∀ j v, news[j]? = some v → w.cell? ⟨vb, j, none⟩ = some v := fun j v hj => by
    have := cells_of_row hr j v hj
    rwa [Addr.add_lit, Nat.zero_add] at this
  have hgl : g < w.heap.size := (row_sz' hgg').1
  by_cases hroom : k + 1 ≤ cap
  · have hsz : (k + 1) * 2 ≤ cur.size := by rw [hcs]; exact Nat.mul_le_mul_right _ hroom
    refine (insA_shift g cap k i vb 1 1 xs news w hlt (by omega) hroom hc63 hvb hl hnl hxc (fun j hj => row_cellSome hgg' j (by omega)) (fun j _ => row_unfrozen hgg' j) hvc h1x h1n _ _ _ _ (row_shape hr) (row_shape hgg') (by omega) (row_unfrozen hr _) (row_unfrozen hr _)).mono ?_
    rintro e w' ⟨rfl, rfl⟩
    refine ⟨_, rfl, ?_, ?_, .inl rfl⟩
    · have := own_ins (W := w.drew) (news := news) h' hnl hi hroom rfl
      simpa only [Nat.mul_one, Nat.zero_add] using this
    · exact ((grownBy_drew w _).trans (grownBy_lay g _ _ _)).trans (grownBy_lay g _ _ _)
  · refine (insA_grow g cap k i vb 1 1 xs news w hlt (by omega) hnc (by omega) (by omega) hl hnl hxc hvc h1x h1n).mono ?_
    rintro e w' ⟨G, Z, hG, hGm, hZ, rfl, rfl⟩
    refine ⟨_, rfl, ?_, ?_, .inr rfl⟩
    · have := own_insN (B := B) (e := 71) (news := news) (i := i) (NB := w.heap.size) (W := (w.alloc (.cells (xs.take (i * 2) ++ Z).toArray 71)).drew.drew) hl hnl hi hG hGm hB (by simpa only [Nat.mul_one] using hZ) (by show (w.alloc _).row _ = _; simp [go_sem])
      rw [drew_setCells]
      simpa only [Nat.mul_one] using this
    · exact grownBy_far ((grownBy_far ((World.grownBy_alloc w _ _).trans (grownBy_drew _ _)) (Nat.le_refl _) _ _).trans (grownBy_drew _ _)) (Nat.le_refl _) _ _
/-- slices.Delete of one element -/
theorem delA_any (w : World) (B g k cap i : Nat) (xs : List Value) (h : w.ownsRow B 71 2 (.slice (some ⟨g, 0, none⟩) k cap) k xs) (hi : i < k) (hk : k ≤ 1000) (h1x : ∀ u ∈ xs, u.oneCell' = true) :
    Calls Tryz.prog 55 #[.slice (some ⟨g, 0, none⟩) k cap, .int .i64 i, .int .i64 ((i : Int) + 1)] w fun e w' => e = .returned (.slice (some ⟨g, 0, none⟩) (k - 1) cap) ∧ w'.ownsRow B 71 2 (.slice (some ⟨g, 0, none⟩) (k - 1) cap) (k - 1) (xs.take (i * 2) ++ xs.drop ((i + 1) * 2)) ∧ w.grownBy w' (some g) := by
  have hl : xs.length = k * 2 := h.1
  have h' := h
  rcases h.2 with ⟨h0, _⟩ | ⟨g', cap', cur, h0, hbg, hgg, hnc, hcm, hcs, ht⟩
  · cases h0
  injection h0 with h0 _ hc
  injection h0 with h0
  injection h0 with h0
  subst h0; subst hc
  have hc63 : cap ≤ 9223372036854775807 := by unfold maxLen at hcm; omega
  have hgg' : w.row g = some (.cells cur 71 (0, 0)) := hgg
  have hxc : ∀ j v, xs[j]? = some v → w.cell? ⟨g, j, none⟩ = some v := fun j v hj => by
    have := h'.cells (g := g) rfl j v hj
    rwa [Addr.add_lit, Nat.zero_add] at this
  refine (delA_run g cap k i (i + 1) xs w (by omega) (by omega) hnc hc63 hl hxc (fun j _ => row_unfrozen hgg' j) h1x).mono ?_
  rintro e w' ⟨zs, hz, rfl, rfl⟩
  have e1 : i + (k - (i + 1)) = k - 1 := by omega
  rw [e1]
  refine ⟨rfl, ?_, ((grownBy_drew w _).trans (grownBy_lay g _ _ _)).trans (grownBy_lay g _ _ _)⟩
  exact own_del (W := w.drew) h' hi (by rw [hz]; omega) rfl

set_option maxRecDepth 100000 in
set_option maxHeartbeats 4000000 in
theorem insI_end (w : World) (B : Nat) (v : Value) (k vb : Nat) (te : TypeId) (xs news : List Value) (h : w.ownsRow B 3 1 v k xs) (hB : B ≤ w.heap.size) (hk : k ≤ 1000) (hnl : news.length = 1) (hr : w.row vb = some (.cells news.toArray te)) (h1n : ∀ u ∈ news, u.oneCell' = true) :
    Calls Tryz.prog 45 #[v, .int .i64 k, .slice (some ⟨vb, 0, none⟩) 1 1] w fun e w' => ∃ v', e = .returned v' ∧ w'.ownsRow B 3 1 v' (k + 1) (xs ++ news) ∧ w.grownBy w' v.ownBlock ∧ (v'.ownBlock = v.ownBlock ∨ v'.ownBlock = some w.heap.size) := by
  obtain ⟨i0, hi0, hz0, hzs, hzb⟩ := info_parts (e := 3) (P := Tryz.prog) (z := .int .i64 0) (size := 1) (bytes := 8) (by kernel_rfl)
  have hnews := cells_of_row hr
  have HH := Lib.hid h
  rcases h.2 with ⟨rfl, rfl⟩ | ⟨g, cap, cur, rfl, _, _, hnc, hcm, _⟩
  · have HO := Lib.hid h
    clear h
    go_enter Tryz.func45, Tryz.ntmps45
    go_wp2_with (at_builtin; refine wpList_append_own_at (w := w) rfl _ _ 46 rfl B 3 i0 _ 1 8 Tryz.underlying46 hi0 hz0 hzs hzb (by kernel_rfl) (by omega) _ 0 xs rfl HO.out ⟨vb, 0, none⟩ 1 1 news rfl (by rw [hnl]) hnews h1n (by simp only [maxLen]; omega) (by omega) hB ?_; intro v' w' ho' hg' _ hat)
    all_goals (go_ret; exact ⟨_, rfl, ho', hg', hat⟩)
  · have HO := Lib.hid h
    have hc63 : cap ≤ 9223372036854775807 := by unfold maxLen at hcm; omega
    clear h
    go_enter Tryz.func45, Tryz.ntmps45
    go_wp2_with (at_builtin; refine wpList_append_own_at (w := w) rfl _ _ 46 rfl B 3 i0 _ 1 8 Tryz.underlying46 hi0 hz0 hzs hzb (by kernel_rfl) (by omega) _ k xs rfl HO.out ⟨vb, 0, none⟩ 1 1 news rfl (by rw [hnl]) hnews h1n (by simp only [maxLen]; omega) (by omega) hB ?_; intro v' w' ho' hg' _ hat)
    all_goals (go_ret; exact ⟨_, rfl, ho', hg', hat⟩)
/-- slices.Insert of one element -/
theorem insI_any (w : World) (B : Nat) (v : Value) (k i vb : Nat) (te : TypeId) (xs news : List Value) (h : w.ownsRow B 3 1 v k xs) (hB : B ≤ w.heap.size) (hi : i ≤ k) (hk : k ≤ 1000) (hnl : news.length = 1) (hr : w.row vb = some (.cells news.toArray te)) (hne : v.ownBlock ≠ some vb)
    (h1x : ∀ u ∈ xs, u.oneCell' = true) (h1n : ∀ u ∈ news, u.oneCell' = true) :
    Calls Tryz.prog 45 #[v, .int .i64 i, .slice (some ⟨vb, 0, none⟩) 1 1] w fun e w' => ∃ v', e = .returned v' ∧ w'.ownsRow B 3 1 v' (k + 1) (xs.take (i * 1) ++ news ++ xs.drop (i * 1)) ∧ w.grownBy w' v.ownBlock ∧ (v'.ownBlock = v.ownBlock ∨ v'.ownBlock = some w.heap.size) := by
  by_cases hik : i = k
  · subst hik
    have hl : xs.length = i * 1 := h.1
    have e1 : xs.take (i * 1) ++ news ++ xs.drop (i * 1) = xs ++ news := by rw [← hl]; simp
    rw [e1]
    exact insI_end w B v i vb te xs news h hB hk hnl hr h1n
  have hlt : i < k := by omega
  have hl : xs.length = k * 1 := h.1
  have h' := h
  rcases h.2 with ⟨_, h0⟩ | ⟨g, cap, cur, rfl, hbg, hgg, hnc, hcm, hcs, ht⟩
  · omega
  have hc63 : cap ≤ 9223372036854775807 := by unfold maxLen at hcm; omega
  have hgg' : w.row g = some (.cells cur 3 (0, 0)) := hgg
  have hvb : vb ≠ g := fun e => hne (by rw [e]; rfl)
  have hxc : ∀ j v, xs[j]? = some v → w.cell? ⟨g, j, none⟩ = some v := fun j v hj => by
    have := h'.cells (g := g) rfl j v hj
    rwa [Addr.add_lit, Nat.zero_add] at this
  have hvc : ∀ j v, news[j]? = some v → w.cell? ⟨vb, j, none⟩ = some v := fun j v hj => by
    have := cells_of_row hr j v hj
    rwa [Addr.add_lit, Nat.zero_add] at this
  have hgl : g < w.heap.size := (row_sz' hgg').1
  by_cases hroom : k + 1 ≤ cap
  · have hsz : (k + 1) * 1 ≤ cur.size := by rw [hcs]; exact Nat.mul_le_mul_right _ hroom
    refine (Any2.slices_Insert_int_shift Tryz.laysNm221 g 0 k cap i vb 0 1 1 xs news w hlt (by omega) hroom hc63 hvb (by simpa using hl) hnl (fun j v hj => by rw [Nat.zero_add]; exact hxc j v hj) (fun j hj => row_cellSome hgg' _ (by omega)) (fun j _ => row_unfrozen hgg' _) (fun j v hj => by rw [Nat.zero_add]; exact hvc j v hj) h1x h1n _ _ _ _ (row_shape hr) (row_shape hgg') (by omega) (row_unfrozen hr _) (row_unfrozen hr _)).mono ?_
    rintro e w' ⟨rfl, rfl⟩
    refine ⟨_, rfl, ?_, ?_, .inl rfl⟩
    · have := own_ins (W := w.drew) (news := news) h' hnl hi hroom rfl
      simpa only [Nat.mul_one, Nat.zero_add] using this
    · exact ((grownBy_drew w _).trans (grownBy_lay g _ _ _)).trans (grownBy_lay g _ _ _)
  · refine (Any2.slices_Insert_int_grow Tryz.laysNm221 g 0 k cap i vb 0 1 1 xs news w hlt (by omega) hnc (by omega) (by omega) (by simpa using hl) hnl (fun j v hj => by rw [Nat.zero_add]; exact hxc j v hj) (fun j v hj => by rw [Nat.zero_add]; exact hvc j v hj) h1x h1n).mono ?_
    rintro e w' ⟨rfl, rfl⟩
    refine ⟨_, rfl, ?_, ?_, .inr rfl⟩
    · have hG : k + 1 ≤ grownCap w (k + 1) cap 3 := grownCap_ge w _ _ _
      have hGm : grownCap w (k + 1) cap 3 ≤ maxLen := grownCap_le_maxLen w (k + 1) cap 3 (by unfold maxLen; omega)
      change ((((w.alloc (.cells ((xs.take i).toArray ++ Builtin.zeroCells (Value.int .i64 0).cells (k + 1 - i) ++ Builtin.zeroCells (Value.int .i64 0).cells (grownCap w (k + 1) cap 3 - (k + 1))) 3)).drew.setCells w.heap.size i news).drew).setCells w.heap.size (i + 1) (xs.drop i)).ownsRow B 3 1 (.slice (some ⟨w.heap.size, 0, none⟩) (k + 1) (grownCap w (k + 1) cap 3)) (k + 1) _
      generalize grownCap w (k + 1) cap 3 = G at *
      obtain ⟨Z, hZ⟩ : ∃ Z, Z = (Builtin.zeroCells (Value.int .i64 0).cells (k + 1 - i)).toList ++ (Builtin.zeroCells (Value.int .i64 0).cells (G - (k + 1))).toList := ⟨_, rfl⟩
      have hROW : (xs.take i).toArray ++ Builtin.zeroCells (Value.int .i64 0).cells (k + 1 - i) ++ Builtin.zeroCells (Value.int .i64 0).cells (G - (k + 1)) = (xs.take i ++ Z).toArray := by
        rw [hZ]; apply Array.toList_inj.1; simp
      have hZl : Z.length = (k + 1 - i) + (G - (k + 1)) := by
        rw [hZ, List.length_append, zeroCells_len, zeroCells_len]
        show (k + 1 - i) * 1 + (G - (k + 1)) * 1 = _
        omega
      rw [hROW, drew_setCells]
      have := own_insN (B := B) (e := 3) (news := news) (i := i) (NB := w.heap.size) (Z := Z) (W := (w.alloc (.cells (xs.take i ++ Z).toArray 3)).drew.drew) hl hnl hi hG hGm hB (by
        simp only [List.length_append, List.length_take, hl, Nat.mul_one, hZl]
        omega) (by rw [Nat.mul_one]; show (w.alloc _).row _ = _; simp [go_sem])
      simpa only [Nat.mul_one] using this
    · exact grownBy_far ((grownBy_far ((World.grownBy_alloc w _ _).trans (grownBy_drew _ _)) (Nat.le_refl _) _ _).trans (grownBy_drew _ _)) (Nat.le_refl _) _ _
/-- slices.Delete of one element -/
theorem delI_any (w : World) (B g k cap i : Nat) (xs : List Value) (h : w.ownsRow B 3 1 (.slice (some ⟨g, 0, none⟩) k cap) k xs) (hi : i < k) (hk : k ≤ 1000) (h1x : ∀ u ∈ xs, u.oneCell' = true) (zs : List Int) (hzs : xs = zs.map (Value.int .i64)) :
    Calls Tryz.prog 51 #[.slice (some ⟨g, 0, none⟩) k cap, .int .i64 i, .int .i64 ((i : Int) + 1)] w fun e w' => e = .returned (.slice (some ⟨g, 0, none⟩) (k - 1) cap) ∧ w'.ownsRow B 3 1 (.slice (some ⟨g, 0, none⟩) (k - 1) cap) (k - 1) (xs.take (i * 1) ++ xs.drop ((i + 1) * 1)) ∧ w.grownBy w' (some g) := by
  have hl : xs.length = k * 1 := h.1
  have h' := h
  rcases h.2 with ⟨h0, _⟩ | ⟨g', cap', cur, h0, hbg, hgg, hnc, hcm, hcs, ht⟩
  · cases h0
  injection h0 with h0 _ hc
  injection h0 with h0
  injection h0 with h0
  subst h0; subst hc
  have hc63 : cap ≤ 9223372036854775807 := by unfold maxLen at hcm; omega
  have hgg' : w.row g = some (.cells cur 3 (0, 0)) := hgg
  have hxc : ∀ j v, xs[j]? = some v → w.cell? ⟨g, j, none⟩ = some v := fun j v hj => by
    have := h'.cells (g := g) rfl j v hj
    rwa [Addr.add_lit, Nat.zero_add] at this
  refine (Tryz.slices_Delete_int_cells g 0 k cap i (i + 1) zs w (by rw [hzs] at hl; simp at hl; omega) hnc hc63 (by omega) (by omega) (fun j hj => ?_) (fun j _ => by rw [Nat.zero_add]; exact row_unfrozen hgg' j)).mono ?_
  · rw [Nat.zero_add]
    refine hxc j _ ?_
    rw [hzs, List.getElem?_map, List.getElem?_eq_getElem hj, List.getD_eq_getElem?_getD, List.getElem?_eq_getElem hj]; rfl
  rintro e w' ⟨rfl, q, rfl⟩
  have hzl : zs.length = k := by rw [hzs] at hl; simpa using hl
  have e1 : k - (i + 1 - i) = k - 1 := by omega
  have e2 : zs.take k = zs := by rw [← hzl]; exact List.take_length
  have e3 : i + 1 - i = 1 := by omega
  rw [e1, e2, e3]
  refine ⟨rfl, ?_, (?_ : w.grownBy (w.drewN q) _).trans (grownBy_lay g _ _ _)⟩
  · skip
    have hrow : (w.drewN q).row g = some (.cells cur.toList.toArray 3 (0, 0)) := by rw [← arr_list]; exact hgg
    have hll : ((zs.take i ++ zs.drop (i + 1) ++ List.replicate 1 0).map (Value.int .i64)).length = k := by simp; omega
    have hcl : cur.toList.length = cap := by simpa using hcs
    have r := row_lay g ((zs.take i ++ zs.drop (i + 1) ++ List.replicate 1 0).map (Value.int .i64)) 0 _ _ _ _ hrow (by rw [hll, hcl]; omega)
    have hxl : (xs.take (i * 1) ++ xs.drop ((i + 1) * 1)).length = (k - 1) * 1 := by simp [hl]; omega
    refine ⟨hxl, .inr ⟨g, cap, _, rfl, hbg, r, by omega, hcm, by rw [List.size_toArray, layL_len _ _ _ (by rw [hll, hcl]; omega), hcl, Nat.mul_one], ?_⟩⟩
    show List.take _ (layL _ _ _) = _
    unfold layL
    rw [← hxl, List.take_zero, List.nil_append, List.map_append, ← List.map_append, hzs]
    simp only [Nat.mul_one, List.map_append, List.map_take, List.map_drop, List.append_assoc]
    rw [← List.append_assoc]
    exact List.take_left
  · exact ⟨rfl, rfl, rfl, Nat.le_refl _, fun _ _ _ => rfl⟩
end Go.Proofs.YtdbddnkjiehaiaaGreat

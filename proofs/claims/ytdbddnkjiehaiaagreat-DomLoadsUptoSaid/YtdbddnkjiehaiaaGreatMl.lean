/- Texts of the walk, one after the other; what each proves stands ahead of it. -/
import Derived.Test.YtdbddnkjiehaiaaGreatMk
set_option linter.unusedSimpArgs false
set_option linter.unusedVariables false
/- WALKS: jalousieref8.Ints, SameElem, jalousielaw8.elems where both are the same. No condition but that they lie in memory. -/
namespace Go.Proofs.YtdbddnkjiehaiaaGreat
open Go.Maps Go.RowKit Go.Sort
theorem ints_get {w : World} {a : Option Addr} {n c : Nat} {l : List Int} (h : IntsAt w (.slice a n c) l) : n = l.length ∧ (l = [] ∨ ∃ g off, a = some ⟨g, off, none⟩ ∧ ∀ (i : Nat) (x : Int), l[i]? = some x → eltAt w g (off + i * 1) [Value.int .i64 x]) := by
  obtain ⟨_, _, e4, _, _, b5⟩ := h
  injection e4 with e4 e5 e6
  subst e4; subst e6; subst e5
  refine ⟨rfl, b5.imp id fun ⟨g, off, h1, _, h2⟩ => ⟨g, off, h1, fun i x hi => ?_⟩⟩
  obtain ⟨cs, _, h3, rfl⟩ := h2 i x hi
  exact h3
theorem ats_get {w : World} {S : Nat → Prop} {a : Option Addr} {n c : Nat} {l : List (ByteArray × ByteArray)} (h : SlAt w S 2 AtR (.slice a n c) l) : n = l.length ∧ (l = [] ∨ ∃ g off, a = some ⟨g, off, none⟩ ∧ ∀ (i : Nat) (x : ByteArray × ByteArray), l[i]? = some x → eltAt w g (off + i * 2) [Value.string x.1, Value.string x.2]) := by
  obtain ⟨_, _, e4, _, _, b5⟩ := h
  injection e4 with e4 e5 e6
  subst e4; subst e6; subst e5
  refine ⟨rfl, b5.imp id fun ⟨g, off, h1, _, h2⟩ => ⟨g, off, h1, fun i x hi => ?_⟩⟩
  obtain ⟨cs, _, h3, rfl⟩ := h2 i x hi
  exact h3

set_option maxRecDepth 100000 in
set_option maxHeartbeats 8000000 in
theorem ints_any (w : World) (l : List Int) (a b : Option Addr) (n m c d : Nat) (h1 : IntsAt w (.slice a n c) l) (h2 : IntsAt w (.slice b m d) l) (hl : l.length ≤ 100000) : Calls Tryz.prog 22 #[.slice a n c, .slice b m d] w (Gives w (.bool true)) := by
  obtain ⟨rfl, g1⟩ := ints_get h1
  obtain ⟨rfl, g2⟩ := ints_get h2
  have G1 := Lib.hid g1; have G2 := Lib.hid g2
  clear h1 h2 g1 g2
  go_enter Tryz.func22, Tryz.ntmps22
  go_wp2_with fail
  go_loopg [13] l.length (fun gn v13 wj => ∃ i : Nat, Hid (gn + i = l.length ∧ i ≤ l.length) ∧ v13 = .int .i64 i ∧ w.grows wj)
  case atStart => exact ⟨0, Lib.hid ⟨by simp, Nat.zero_le _⟩, by go_num, (by repeat (with_reducible first | assumption | exact grA | apply grB | apply grC | apply grD | refine grE ?_ (by omega) _ | refine grF ?_ (by omega) _ _))⟩
  case round =>
    obtain ⟨i, HQ, rfl, hgj⟩ := hrel
    obtain ⟨j1, j2⟩ := HQ.out
    by_cases hlt : i < l.length
    · have i1 : (i : Int) < (l.length : Int) := by omega
      rcases G1.out with h0 | ⟨p1, o1, rfl, e1⟩
      · rw [h0] at hlt; simp at hlt
      rcases G2.out with h0 | ⟨p2, o2, rfl, e2⟩
      · rw [h0] at hlt; simp at hlt
      have hgt := List.getElem?_eq_getElem hlt
      have k1 := (e1 i _ hgt).grows hgj
      have k2 := (e2 i _ hgt).grows hgj
      generalize l[i] = x at *
      have z1 := lt_sz k1.lt
      have z2 := lt_sz k2.lt
      have c1 := k1.cell (j := 0) rfl
      have c2 := k2.cell (j := 0) rfl
      rw [World.cell?_row, Nat.add_zero, Nat.mul_one] at c1 c2
      clear k1 k2 e1 e2 G1 G2 hgt
      go_wp2_with fail
      go_region
      go_wp2_with fail
      go_roundg (l.length - (i + 1))
      case measure => omega
      case rel => exact ⟨i + 1, Lib.hid ⟨by omega, by omega⟩, by go_num, (by repeat (with_reducible first | assumption | exact grA | apply grB | apply grC | apply grD | refine grE ?_ (by omega) _ | refine grF ?_ (by omega) _ _))⟩
    · have i1 : ¬ (i : Int) < (l.length : Int) := by omega
      go_wp2_with fail
      go_ret
      exact ⟨rfl, hgj⟩

set_option maxRecDepth 100000 in
set_option maxHeartbeats 8000000 in
theorem sameE_any (w : World) (S1 S2 : Nat → Prop) (e : El) (cs1 cs2 : List Value) (h1 : ElR w S1 e cs1) (h2 : ElR w S2 e cs2) (hk : e.ks.length ≤ 100000) (ha : e.at'.length ≤ 100000) : Calls Tryz.prog 47 #[.agg cs1.toArray, .agg cs2.toArray] w (Gives w (.bool true)) := by
  obtain ⟨ka, aa, kc, ac, rfl, hk1, ha1⟩ := h1
  obtain ⟨kb, ab, kd, ad, rfl, hk2, ha2⟩ := h2
  have K1 := Lib.hid (ints_get (SlAt.keep hk1 (S' := fun _ => True) (fun g _ _ => ⟨rfl, trivial⟩) fun _ _ _ h => h)).2
  have K2 := Lib.hid (ints_get (SlAt.keep hk2 (S' := fun _ => True) (fun g _ _ => ⟨rfl, trivial⟩) fun _ _ _ h => h)).2
  have A1 := Lib.hid (ats_get ha1).2
  have A2 := Lib.hid (ats_get ha2).2
  clear hk1 hk2 ha1 ha2
  obtain ⟨id, p, tag, ks, at', ty, nm, x1, x2, x3, x4⟩ := e
  simp only at *
  go_enter Tryz.func47, Tryz.ntmps47
  go_upto_region 1 with fail
  have hg1 : w.grows ((w.alloc (.cells #[.int .i64 id, .int .i64 p, .string tag, .slice ka ks.length kc, .slice aa at'.length ac, .int .i64 ty, .string nm, .int .i64 x1, .int .i64 x2, .int .i64 x3, .int .i64 x4] 49)).alloc (.cells #[.int .i64 id, .int .i64 p, .string tag, .slice kb ks.length kd, .slice ab at'.length ad, .int .i64 ty, .string nm, .int .i64 x1, .int .i64 x2, .int .i64 x3, .int .i64 x4] 49)) := (by repeat (with_reducible first | assumption | exact grA | apply grB | apply grC | apply grD | refine grE ?_ (by omega) _ | refine grF ?_ (by omega) _ _))
  have r1 : ((w.alloc (.cells #[.int .i64 id, .int .i64 p, .string tag, .slice ka ks.length kc, .slice aa at'.length ac, .int .i64 ty, .string nm, .int .i64 x1, .int .i64 x2, .int .i64 x3, .int .i64 x4] 49)).alloc (.cells #[.int .i64 id, .int .i64 p, .string tag, .slice kb ks.length kd, .slice ab at'.length ad, .int .i64 ty, .string nm, .int .i64 x1, .int .i64 x2, .int .i64 x3, .int .i64 x4] 49)).row w.heap.size = some (.cells #[.int .i64 id, .int .i64 p, .string tag, .slice ka ks.length kc, .slice aa at'.length ac, .int .i64 ty, .string nm, .int .i64 x1, .int .i64 x2, .int .i64 x3, .int .i64 x4] 49) := by simp [go_sem]
  have r2 : ((w.alloc (.cells #[.int .i64 id, .int .i64 p, .string tag, .slice ka ks.length kc, .slice aa at'.length ac, .int .i64 ty, .string nm, .int .i64 x1, .int .i64 x2, .int .i64 x3, .int .i64 x4] 49)).alloc (.cells #[.int .i64 id, .int .i64 p, .string tag, .slice kb ks.length kd, .slice ab at'.length ad, .int .i64 ty, .string nm, .int .i64 x1, .int .i64 x2, .int .i64 x3, .int .i64 x4] 49)).row (w.heap.size + 1) = some (.cells #[.int .i64 id, .int .i64 p, .string tag, .slice kb ks.length kd, .slice ab at'.length ad, .int .i64 ty, .string nm, .int .i64 x1, .int .i64 x2, .int .i64 x3, .int .i64 x4] 49) := by simp [go_sem]
  generalize ((w.alloc (.cells #[.int .i64 id, .int .i64 p, .string tag, .slice ka ks.length kc, .slice aa at'.length ac, .int .i64 ty, .string nm, .int .i64 x1, .int .i64 x2, .int .i64 x3, .int .i64 x4] 49)).alloc (.cells #[.int .i64 id, .int .i64 p, .string tag, .slice kb ks.length kd, .slice ab at'.length ad, .int .i64 ty, .string nm, .int .i64 x1, .int .i64 x2, .int .i64 x3, .int .i64 x4] 49)) = w1 at *
  have z1 := row_sz' r1
  have z2 := row_sz' r2
  generalize w.heap.size = n0 at *
  go_wp2_with fail
  go_loopg [54] ks.length (fun gn v54 wj => ∃ i : Nat, Hid (gn + i = ks.length ∧ i ≤ ks.length) ∧ v54 = .int .i64 i ∧ w1.grows wj)
  case atStart => exact ⟨0, Lib.hid ⟨by simp, Nat.zero_le _⟩, by go_num, (by repeat (with_reducible first | assumption | exact grA | apply grB | apply grC | apply grD | refine grE ?_ (by omega) _ | refine grF ?_ (by omega) _ _))⟩
  case round =>
    obtain ⟨i, HQ, rfl, hgj⟩ := hrel
    obtain ⟨j1, j2⟩ := HQ.out
    have q1 : wr.row n0 = _ := (hgj.row_eq z1.1).trans r1
    have q2 : wr.row (n0 + 1) = _ := (hgj.row_eq z2.1).trans r2
    have y1 := row_sz' q1
    have y2 := row_sz' q2
    by_cases hlt : i < ks.length
    · have i1 : (i : Int) < (ks.length : Int) := by omega
      rcases K1.out with h0 | ⟨p1, o1, rfl, e1⟩
      · rw [h0] at hlt; simp at hlt
      rcases K2.out with h0 | ⟨p2, o2, rfl, e2⟩
      · rw [h0] at hlt; simp at hlt
      have hgt := List.getElem?_eq_getElem hlt
      have k1 := ((e1 i _ hgt).grows hg1).grows hgj
      have k2 := ((e2 i _ hgt).grows hg1).grows hgj
      generalize ks[i] = x at *
      have z3 := lt_sz k1.lt
      have z4 := lt_sz k2.lt
      have c1 := k1.cell (j := 0) rfl
      have c2 := k2.cell (j := 0) rfl
      rw [World.cell?_row, Nat.add_zero, Nat.mul_one] at c1 c2
      clear k1 k2 e1 e2 K1 K2 A1 A2 hgt
      go_wp2_with fail
      go_region
      go_wp2_with fail
      go_roundg (ks.length - (i + 1))
      case measure => omega
      case rel => exact ⟨i + 1, Lib.hid ⟨by omega, by omega⟩, by go_num, (by repeat (with_reducible first | assumption | exact grA | apply grB | apply grC | apply grD | refine grE ?_ (by omega) _ | refine grF ?_ (by omega) _ _))⟩
    · have i1 : ¬ (i : Int) < (ks.length : Int) := by omega
      have hgB := hgj
      go_wp2_with fail
      clear HQ j1 j2 i1 hlt
      go_loopg [72] at'.length (fun gn v72 wj => ∃ i : Nat, Hid (gn + i = at'.length ∧ i ≤ at'.length) ∧ v72 = .int .i64 i ∧ w1.grows wj)
      case atStart => exact ⟨0, Lib.hid ⟨by simp, Nat.zero_le _⟩, by go_num, (by repeat (with_reducible first | assumption | exact grA | apply grB | apply grC | apply grD | refine grE ?_ (by omega) _ | refine grF ?_ (by omega) _ _))⟩
      case round =>
        obtain ⟨i', HQ, rfl, hgj'⟩ := hrel
        obtain ⟨j1, j2⟩ := HQ.out
        have q1 : wr.row n0 = _ := (hgj'.row_eq z1.1).trans r1
        have q2 : wr.row (n0 + 1) = _ := (hgj'.row_eq z2.1).trans r2
        have y1 := row_sz' q1
        have y2 := row_sz' q2
        by_cases hlt : i' < at'.length
        · have i1 : (i' : Int) < (at'.length : Int) := by omega
          rcases A1.out with h0 | ⟨p1, o1, rfl, e1⟩
          · rw [h0] at hlt; simp at hlt
          rcases A2.out with h0 | ⟨p2, o2, rfl, e2⟩
          · rw [h0] at hlt; simp at hlt
          have hgt := List.getElem?_eq_getElem hlt
          have k1 := ((e1 i' _ hgt).grows hg1).grows hgj'
          have k2 := ((e2 i' _ hgt).grows hg1).grows hgj'
          generalize at'[i'] = x at *
          have z3 := lt_sz k1.lt
          have z4 := lt_sz k2.lt
          obtain ⟨u1, u2⟩ := k1
          obtain ⟨u3, u4⟩ := k2
          rw [show [Value.string x.1, Value.string x.2].length = 2 from rfl] at u1 u2 u3 u4
          clear e1 e2 K1 K2 A1 A2 hgt
          go_wp2_with fail
          go_region
          go_wp2_with fail
          go_roundg (at'.length - (i' + 1))
          case measure => omega
          case rel => exact ⟨i' + 1, Lib.hid ⟨by omega, by omega⟩, by go_num, (by repeat (with_reducible first | assumption | exact grA | apply grB | apply grC | apply grD | refine grE ?_ (by omega) _ | refine grF ?_ (by omega) _ _))⟩
        · have i1 : ¬ (i' : Int) < (at'.length : Int) := by omega
          go_wp2_with fail
          go_ret
          exact ⟨rfl, hg1.trans hgj'⟩

/-- elements handed out, as a list -/
abbrev ElsAt (w : World) (v : Value) (l : List El) : Prop := SlAt w (fun _ => True) 11 (ElR w (fun _ => True)) v l
theorem ElsAt.grows {w W : World} {v : Value} {l : List El} (h : ElsAt w v l) (hg : w.grows W) : ElsAt W v l :=
  SlAt.grows h hg fun x _ cs hx => hx.keep fun g _ hl => ⟨hg.row_eq hl, trivial⟩
theorem ElsAt.keep {w W : World} {S : Nat → Prop} {v : Value} {l : List El} (h : SlAt w S 11 (ElR w S) v l) (hr : ∀ g, S g → g < w.heap.size → W.row g = w.row g) : ElsAt W v l :=
  SlAt.keep h (fun g hg hl => ⟨hr g hg hl, trivial⟩) fun x _ cs hx => hx.keep fun g hg hl => ⟨hr g hg hl, trivial⟩
theorem els_get {w : World} {a : Option Addr} {n c : Nat} {l : List El} (h : ElsAt w (.slice a n c) l) : n = l.length ∧ (l = [] ∨ ∃ g off, a = some ⟨g, off, none⟩ ∧ ∀ (i : Nat) (x : El), l[i]? = some x → ∃ cs, cs.length = 11 ∧ eltAt w g (off + i * 11) cs ∧ ElR w (fun _ => True) x cs) := by
  obtain ⟨_, _, e4, _, _, b5⟩ := h
  injection e4 with e4 e5 e6
  subst e4; subst e6; subst e5
  exact ⟨rfl, b5.imp id fun ⟨g, off, h1, _, h2⟩ => ⟨g, off, h1, h2⟩⟩

set_option maxRecDepth 100000 in
set_option maxHeartbeats 8000000 in
theorem elems_any (w : World) (l : List El) (hw : ∀ e ∈ l, e.Wf) (a b : Option Addr) (n m c d : Nat) (h1 : ElsAt w (.slice a n c) l) (h2 : ElsAt w (.slice b m d) l) (hl : l.length ≤ 100000) : Calls Tryz.prog 28 #[.slice a n c, .slice b m d] w (Gives w (.bool true)) := by
  obtain ⟨rfl, g1⟩ := els_get h1
  obtain ⟨rfl, g2⟩ := els_get h2
  have G1 := Lib.hid g1; have G2 := Lib.hid g2; have HW := Lib.hid hw
  clear h1 h2 g1 g2 hw
  go_enter Tryz.func28, Tryz.ntmps28
  go_wp2_with fail
  go_loopg [13] l.length (fun gn v13 wj => ∃ i : Nat, Hid (gn + i = l.length ∧ i ≤ l.length) ∧ v13 = .int .i64 i ∧ w.grows wj)
  case atStart => exact ⟨0, Lib.hid ⟨by simp, Nat.zero_le _⟩, by go_num, (by repeat (with_reducible first | assumption | exact grA | apply grB | apply grC | apply grD | refine grE ?_ (by omega) _ | refine grF ?_ (by omega) _ _))⟩
  case round =>
    obtain ⟨i, HQ, rfl, hgj⟩ := hrel
    obtain ⟨j1, j2⟩ := HQ.out
    by_cases hlt : i < l.length
    · have i1 : (i : Int) < (l.length : Int) := by omega
      rcases G1.out with h0 | ⟨p1, o1, rfl, e1⟩
      · rw [h0] at hlt; simp at hlt
      rcases G2.out with h0 | ⟨p2, o2, rfl, e2⟩
      · rw [h0] at hlt; simp at hlt
      have hgt := List.getElem?_eq_getElem hlt
      obtain ⟨cs1, l1, k1, E1⟩ := e1 i _ hgt
      obtain ⟨cs2, l2, k2, E2⟩ := e2 i _ hgt
      have hew := HW.out _ (List.getElem_mem hlt)
      have k1 := k1.grows hgj
      have k2 := k2.grows hgj
      have hd : w.grows wr.drew := World.grows.drew hgj
      have E1 := E1.keep (W := wr.drew) (S' := fun _ => True) fun g _ hl => ⟨hd.row_eq hl, trivial⟩
      have E2 := E2.keep (W := wr.drew) (S' := fun _ => True) fun g _ hl => ⟨hd.row_eq hl, trivial⟩
      generalize l[i] = x at *
      have HS := Lib.hid (fun (W : World) (hW : wr.grows W) => sameE_any W _ _ x cs1 cs2 (E1.keep (W := W) (S' := fun _ => True) fun g _ hl => ⟨hW.row_eq hl, trivial⟩) (E2.keep (W := W) (S' := fun _ => True) fun g _ hl => ⟨hW.row_eq hl, trivial⟩) (by have := hew.2.2.2.2.2.2.2; omega) (by have := hew.2.2.2.2.2.2.1; omega))
      have z1 := lt_sz k1.lt
      have z2 := lt_sz k2.lt
      obtain ⟨u1, u2⟩ := k1
      obtain ⟨u3, u4⟩ := k2
      rw [l1] at u1 u2
      rw [l2] at u3 u4
      clear e1 e2 G1 G2 E1 E2 hgt hew HW
      go_wp2_with fail
      refine wp_region_plus_seq (by kernel_rfl) (by kernel_rfl) (fun x0 => ?_)
      repeat (any_goals (first | (refine wpSeqL_free rfl ?_; first | (go_big_quiet_skip; refine wpQuiet_nil ?_) | (go_big_quiet_step (fail); refine wpQuiet_nil ?_) | (refine wpQuiet_step (fun K hK => ?_); go_simp; split <;> (refine hK _ ?_; clear hK K; refine wpQuiet_nil ?_))) | (refine wpSeqL_link rfl (fun K hK => ?_); go_simp; first | first | (refine hK _ _ (by show World.grows _ _; repeat (first | assumption | exact grA | apply grB | apply grC | apply grD)) ?_; clear hK K) | (((go_at_call 47; (with_reducible refine (HS.out _ (by repeat (with_reducible first | assumption | exact grA | apply grB | apply grC | apply grD | refine grE ?_ (by omega) _ | refine grF ?_ (by omega) _ _))).mono ?_); rintro r w2 ⟨rfl, x2, rfl⟩)); refine ⟨_, rfl, hK _ _ (by show World.grows _ _; repeat (first | assumption | exact grA | apply grB | apply grC | apply grD)) ?_⟩; clear hK K) | (split <;> (first | (refine hK _ _ (by show World.grows _ _; repeat (first | assumption | exact grA | apply grB | apply grC | apply grD)) ?_; clear hK K) | (((go_at_call 47; (with_reducible refine (HS.out _ (by repeat (with_reducible first | assumption | exact grA | apply grB | apply grC | apply grD | refine grE ?_ (by omega) _ | refine grF ?_ (by omega) _ _))).mono ?_); rintro r w2 ⟨rfl, x2, rfl⟩)); refine ⟨_, rfl, hK _ _ (by show World.grows _ _; repeat (first | assumption | exact grA | apply grB | apply grC | apply grD)) ?_⟩; clear hK K))))))
      all_goals (refine wpSeqL_end ?_)
      go_wp2_with fail
      go_roundg (l.length - (i + 1))
      case measure => omega
      case rel => exact ⟨i + 1, Lib.hid ⟨by omega, by omega⟩, by go_num, (by repeat (with_reducible first | assumption | exact grA | apply grB | apply grC | apply grD | refine grE ?_ (by omega) _ | refine grF ?_ (by omega) _ _))⟩
    · have i1 : ¬ (i : Int) < (l.length : Int) := by omega
      go_wp2_with fail
      go_ret
      exact ⟨rfl, hgj⟩
end Go.Proofs.YtdbddnkjiehaiaaGreat

/- WALK: jalousielaw8.awake. No condition. -/
namespace Go.Proofs.YtdbddnkjiehaiaaGreat
open Go.Maps Go.RowKit Go.Sort
theorem ints_row {w : World} {g : Nat} {t : TypeId} (l : List Int) (h : w.row g = some (.cells (l.map (Value.int .i64)).toArray t)) (hl : l.length ≤ 1000) : IntsAt w (.slice (some ⟨g, 0, none⟩) l.length l.length) l :=
  IntsAt_own (B := 0) (t := t) ⟨by simp, .inr ⟨g, l.length, _, rfl, Nat.zero_le _, h, Nat.le_refl _, by simp only [maxLen]; omega, by simp, by simp [List.take_of_length_le]⟩⟩
theorem awk_name : nameB (⟨#[97]⟩ : ByteArray).data.toList = true := by kernel_rfl
def awkM : Dm := ⟨0, 2, [⟨0, -1, ⟨#[97]⟩, [1], [], plainBx⟩, ⟨1, 0, ⟨#[98]⟩, [], [], plainBx⟩]⟩
theorem awk_ins : (newM ⟨#[97]⟩).ins 0 0 ⟨#[98]⟩ = (1, 0, awkM) := by kernel_rfl
theorem awk_below : awkM.below 32 awkM.root = [0, 1] := by kernel_rfl

set_option maxRecDepth 100000 in
set_option maxHeartbeats 8000000 in
theorem awake_any (w : World) : Calls Tryz.prog 6 #[] w (Gives w (.bool true)) := by
  have hN := domNew_any w ⟨#[97]⟩ (by decide +kernel)
  rw [awk_name] at hN
  have HN := Lib.hid hN
  clear hN
  go_enter Tryz.func6, Tryz.ntmps6
  go_upto_region 4 with (go_at_call 20; go_loud ((with_reducible refine HN.out.mono ?_); rintro r w1 ⟨hg1, ⟨hbad, _⟩ | ⟨_, L, rfl, hT, hO⟩⟩); (first | (exact absurd hbad (by decide)) | skip))
  have hI := domIns_any w1 L (newM ⟨#[97]⟩) hT (newM_par _) 0 0 ⟨#[98]⟩ (i64s (by decide) (by decide)) (i64s (by decide) (by decide)) (by decide +kernel)
  rw [awk_ins] at hI
  have HI := Lib.hid hI
  clear hI hT
  have HO := Lib.hid hO
  clear hO
  go_upto_region 5 with (go_at_call 21; go_loud ((with_reducible refine HI.out.mono ?_); rintro r w2 ⟨rfl, L2, hL2, hc2, hT2⟩))
  have hg2 : w.grows w2 := hc2.gr w HO.out hg1
  have hB := domOrder_any w2 L2 awkM hT2
  rw [awk_below, hL2] at hB
  have HB := Lib.hid hB
  clear hB hT2
  go_wp2_with (first
    | (go_at_call 23; go_loud ((with_reducible refine HB.out.mono ?_); rintro r w3 ⟨v3, rfl, hg3, hv3⟩); obtain ⟨a3, c3, rfl⟩ := own_slice hv3; (have hg30 := hg2.trans hg3); (have HV3 := Lib.hid (IntsAt_own hv3)); (have HS := Lib.hid (ints_any (w3.alloc (.cells #[.int .i64 0, .int .i64 1] 3)) [0, 1] a3 (some ⟨w3.heap.size, 0, none⟩) 2 2 c3 2 (HV3.out.grow (by repeat (with_reducible first | assumption | exact grA | apply grB | apply grC | apply grD | refine grE ?_ (by omega) _ | refine grF ?_ (by omega) _ _))) (ints_row (t := 3) [0, 1] (by simp [go_sem]) (by simp)) (by simp))))
    | (go_at_call 22; go_loud ((with_reducible refine HS.out.mono ?_); rintro r w4 ⟨rfl, x4, rfl⟩)))
  go_ret
  exact ⟨rfl, (by repeat (with_reducible first | assumption | exact grA | apply grB | apply grC | apply grD | refine grE ?_ (by omega) _ | refine grF ?_ (by omega) _ _))⟩
end Go.Proofs.YtdbddnkjiehaiaaGreat

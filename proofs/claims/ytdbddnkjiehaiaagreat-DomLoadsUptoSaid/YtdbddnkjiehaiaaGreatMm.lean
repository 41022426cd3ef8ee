/- Texts of the walk, one after the other; what each proves stands ahead of it. -/
import Derived.Test.YtdbddnkjiehaiaaGreatMt
set_option linter.unusedSimpArgs false
set_option linter.unusedVariables false
/- LAWS: what a tree that is played has: names, boxes; in tree order each element stands once, behind its parent, and what is below one stands side by side. No condition; no program. -/
namespace Go
open Go.RowKit
def boxE (b : Bx) : Bool := Go.Proofs.YtdbddnkjiehaiaaGreat.boxB b.ty b.nm.data.toList b.a b.b b.c b.d
def El.Fit (e : El) : Prop := nameB e.tag.data.toList = true ∧ (∀ x ∈ e.at', nameB x.1.data.toList = true) ∧ boxE e.bx = true
def Dm.Fit (M : Dm) : Prop := M.root = 0 ∧ ∀ e ∈ M.els, e.Fit
theorem fit_upd {M : Dm} (h : M.Fit) (id : Int) (f : El → El) (hf : ∀ e ∈ M.els, (f e).Fit) : Dm.Fit ⟨M.root, M.next, updE M.els id f⟩ := ⟨h.1, fun x hx => by
  obtain ⟨y, hy, rfl⟩ := updE_mem.1 hx
  split
  · exact hf y hy
  · exact h.2 y hy⟩
theorem Dm.Fit.step {M : Dm} (h : M.Fit) (o : Opn) : (M.step o).2.2.Fit := by
  unfold Dm.step
  split
  · unfold Dm.ins
    cases hat : M.at o.id with
    | none => exact h
    | some e =>
      simp only
      split
      · exact h
      split
      · exact h
      rename_i q
      split
      · exact h
      split
      · exact h
      · refine ⟨h.1, fun x hx => ?_⟩
        rcases List.mem_append.1 hx with hx | hx
        · exact (fit_upd h o.id (insE o.pl.toNat M.next) (fun y hy => h.2 y hy)).2 x hx
        · simp only [List.mem_singleton] at hx
          subst hx
          exact ⟨by simpa using q, (fun x hx => by cases hx), (show boxE plainBx = true by decide +kernel)⟩
  split
  · unfold Dm.rem
    cases hat : M.at o.id with
    | none => exact h
    | some e =>
      simp only
      split
      · exact h
      · exact ⟨h.1, fun x hx => (fit_upd h e.p (fun f => { f with ks := f.ks.filter (fun k => decide (k ≠ o.id)) }) (fun y hy => h.2 y hy)).2 x (List.mem_filter.1 hx).1⟩
  split
  · unfold Dm.set
    cases hat : M.at o.id with
    | none => exact h
    | some e =>
      simp only
      split
      · exact h
      rename_i q
      split
      · exact h
      split
      · exact h
      · refine fit_upd h _ _ fun y hy => ⟨(h.2 y hy).1, fun x hx => ?_, (h.2 y hy).2.2⟩
        rcases putA_mem hx with rfl | hx
        · simpa using q
        · exact (h.2 y hy).2.1 x hx
  split
  · unfold Dm.unset
    cases hat : M.at o.id with
    | none => exact h
    | some e =>
      simp only
      split
      · exact h
      · exact fit_upd h _ _ fun y hy => ⟨(h.2 y hy).1, fun x hx => (h.2 y hy).2.1 x (List.mem_filter.1 hx).1, (h.2 y hy).2.2⟩
  split
  · unfold Dm.box
    cases hat : M.at o.id with
    | none => exact h
    | some e =>
      simp only
      split
      · exact h
      · rename_i q
        exact fit_upd h _ _ fun y hy => ⟨(h.2 y hy).1, (h.2 y hy).2.1, by simpa [Opn.okB, boxE] using q⟩
  · exact h
theorem fit_new {tag : ByteArray} (h : nameB tag.data.toList = true) : (Go.Proofs.YtdbddnkjiehaiaaGreat.newM tag).Fit := ⟨rfl, fun x hx => by
  simp [Go.Proofs.YtdbddnkjiehaiaaGreat.newM] at hx
  subst hx
  exact ⟨h, (fun x hx => by cases hx), (show boxE plainBx = true by decide +kernel)⟩⟩
/-- the greatest number -/
def lastI (l : List El) : Int := match l.getLast? with | none => -1 | some e => e.id
theorem lastI_take {l : List El} {i : Nat} {e : El} (h : l[i]? = some e) : lastI (l.take (i + 1)) = e.id := by
  unfold lastI
  rw [List.take_add_one, h]; simp
theorem lastI_lt {l : List El} (hu : l.Pairwise fun a b => a.id < b.id) (h0 : ∀ e ∈ l, 0 ≤ e.id) {i : Nat} {e : El} (h : l[i]? = some e) : lastI (l.take i) < e.id := by
  have hi := (List.getElem?_eq_some_iff.1 h).1
  have he := (List.getElem?_eq_some_iff.1 h).2
  cases i with
  | zero =>
    have := h0 e (List.mem_of_getElem? h)
    unfold lastI; simp; omega
  | succ j =>
    have hj : l[j]? = some (l[j]'(by omega)) := List.getElem?_eq_getElem _
    rw [lastI_take hj]
    have := List.pairwise_iff_getElem.1 hu j (j + 1) (by omega) hi (by omega)
    rw [he] at this; exact this
theorem lastI_ge {l : List El} (hu : l.Pairwise fun a b => a.id < b.id) {e : El} (he : e ∈ l) : e.id ≤ lastI l := by
  obtain ⟨i, hi, rfl⟩ := List.mem_iff_getElem.1 he
  have hl : l.getLast? = some (l[l.length - 1]'(by omega)) := by rw [List.getLast?_eq_getElem?]; exact List.getElem?_eq_getElem _
  unfold lastI
  rw [hl]
  simp only
  by_cases h : i = l.length - 1
  · subst h; exact Int.le_refl _
  · have := List.pairwise_iff_getElem.1 hu i (l.length - 1) hi (by omega) (by omega)
    omega
theorem lastI_mem {l : List El} (h : l ≠ []) : ∃ e ∈ l, lastI l = e.id := by
  cases hl : l.getLast? with
  | none => rw [List.getLast?_eq_none_iff] at hl; exact absurd hl h
  | some e => exact ⟨e, List.mem_of_getLast? hl, by unfold lastI; rw [hl]⟩
/-- the tree that its elements, loaded, are -/
def Dm.back (M : Dm) : Dm := ⟨M.root, lastI M.els + 1, M.els⟩
theorem Dm.back_at (M : Dm) (i : Int) : M.back.at i = M.at i := rfl
theorem Dm.back_below (M : Dm) : ∀ (n : Nat) (i : Int), M.back.below n i = M.below n i
  | 0, _ => rfl
  | n + 1, i => by
    unfold Dm.below
    rw [M.back_at i]
    cases M.at i with
    | none => rfl
    | some e => simp only [List.flatMap_def]; rw [List.map_congr_left fun k _ => M.back_below n k]
theorem Dm.Good.back {M : Dm} (h : M.Good) : M.back.Good ∧ M.back.next ≤ M.next := by
  obtain ⟨r, hr, h1, h2⟩ := h.wf.rootE
  obtain ⟨e, he, hl⟩ := lastI_mem (l := M.els) (fun hh => by rw [hh] at hr; cases hr)
  have := h.wf.low e he
  have hn := h.wf.nxt
  have hle : M.back.next ≤ M.next := by show lastI M.els + 1 ≤ M.next; omega
  refine ⟨⟨⟨h.wf.up, fun f hf => ⟨(h.wf.low f hf).1, ?_⟩, by omega, h.wf.few, h.wf.rootE, h.wf.kid, h.wf.once, h.wf.dep⟩, h.par, h.ups⟩, hle⟩
  have := lastI_ge h.wf.up hf
  show f.id < lastI M.els + 1; omega
/-- what is below an element stands side by side in tree order -/
theorem Dm.Good.side {M : Dm} (h : M.Good) : ∃ dep : Int → Nat, (∀ e ∈ M.els, e.id ≠ M.root → dep e.id = dep e.p + 1) ∧ ∀ (d : Nat) (e : El), e ∈ M.els → dep e.id = d → ∃ A B, M.below 32 M.root = A ++ M.below 32 e.id ++ B := by
  obtain ⟨dep, d1, d2, d3⟩ := h.wf.dep
  refine ⟨dep, d2, ?_⟩
  intro d
  induction d with
  | zero => 
    intro e he hd
    by_cases hr : e.id = M.root
    · exact ⟨[], [], by rw [hr]; simp⟩
    · have := d2 e he hr; omega
  | succ d ih =>
    intro e he hd
    by_cases hr : e.id = M.root
    · exact ⟨[], [], by rw [hr]; simp⟩
    · obtain ⟨f, hf, h3, h4⟩ := h.par e he hr
      have h5 := d2 e he hr
      rw [← h3] at h5
      obtain ⟨A, B, h6⟩ := ih f hf (by omega)
      obtain ⟨P, Q, h7⟩ := List.append_of_mem h4
      have hfd : 1 ≤ dep f.id := by
        by_cases hfr : f.id = M.root
        · rw [hfr, d1]; exact Nat.le_refl _
        · rw [d2 f hf hfr]; omega
      have h8 := Dm.below_fuel h.wf d2 d3 31 e he (by omega)
      rw [Dm.below_at h.wf hf 31, h7, List.flatMap_append, List.flatMap_cons] at h6
      refine ⟨A ++ (f.id :: P.flatMap (M.below 31)), Q.flatMap (M.below 31) ++ B, ?_⟩
      rw [h6, h8]; simp
theorem Dm.Good.below_head {M : Dm} (h : M.Good) {e : El} (he : e ∈ M.els) : ∃ t, M.below 32 e.id = e.id :: t := ⟨_, Dm.below_at h.wf he 31⟩
/-- each element's place in tree order: what is below it stands there; behind its parent -/
theorem Dm.Good.order {M : Dm} (h : M.Good) {e : El} (he : e ∈ M.els) : ∃ i, (∀ (k : Nat) (x : Int), (M.below 32 e.id)[k]? = some x → (M.below 32 M.root)[i + k]? = some x) ∧ (e.id ≠ M.root → ∃ j, j < i ∧ (M.below 32 M.root)[j]? = some e.p) := by
  obtain ⟨dep, d2, hs⟩ := h.side
  obtain ⟨A, B, h1⟩ := hs _ e he rfl
  have hk : ∀ (A B l : List Int) (k : Nat) (x : Int), l[k]? = some x → (A ++ l ++ B)[A.length + k]? = some x := fun A B l k x hx => by
    have := (List.getElem?_eq_some_iff.1 hx).1
    rw [List.append_assoc, List.getElem?_append_right (by omega), Nat.add_sub_cancel_left, List.getElem?_append_left this]; exact hx
  by_cases hr : e.id = M.root
  · exact ⟨A.length, fun k x hx => by rw [h1]; exact hk A B _ k x hx, fun hh => absurd hr hh⟩
  · obtain ⟨f, hf, h3, h4⟩ := h.par e he hr
    obtain ⟨A', B', h5⟩ := hs _ f hf rfl
    obtain ⟨P, Q, h6⟩ := List.append_of_mem h4
    obtain ⟨dep', d1', d2', d3'⟩ := h.wf.dep
    have hfd : 1 ≤ dep' f.id := by
      by_cases hfr : f.id = M.root
      · rw [hfr, d1']; exact Nat.le_refl _
      · rw [d2' f hf hfr]; omega
    have h7 := d2' e he hr
    rw [← h3] at h7
    have h8 := Dm.below_fuel h.wf d2' d3' 31 e he (by omega)
    have h9 : M.below 32 M.root = (A' ++ (f.id :: P.flatMap (M.below 31))) ++ M.below 32 e.id ++ (Q.flatMap (M.below 31) ++ B') := by
      rw [h5, Dm.below_at h.wf hf 31, h6, List.flatMap_append, List.flatMap_cons, h8]; simp
    refine ⟨(A' ++ (f.id :: P.flatMap (M.below 31))).length, fun k x hx => ?_, fun _ => ⟨A'.length, by simp, ?_⟩⟩
    · conv => lhs; rw [h9]
      exact hk _ _ _ k x hx
    · rw [← h3, h9]; simp
theorem Dm.Good.order_once {M : Dm} (h : M.Good) : (M.below 32 M.root).Nodup := by
  obtain ⟨dep, d1, d2, d3⟩ := h.wf.dep
  obtain ⟨r, hr, h1, _⟩ := h.wf.rootE
  rw [← h1]; exact Dm.below_once h.wf d2 32 r hr
theorem Dm.Good.order_mem {M : Dm} (h : M.Good) {x : Int} : x ∈ M.below 32 M.root ↔ ∃ e ∈ M.els, e.id = x := by
  obtain ⟨dep, d1, d2, d3⟩ := h.wf.dep
  obtain ⟨r, hr, h1, _⟩ := h.wf.rootE
  constructor
  · intro hx
    rw [← h1] at hx
    exact (Dm.below_up h.wf d2 32 r hr x hx).1
  · rintro ⟨e, he, rfl⟩
    obtain ⟨i, h2, _⟩ := h.order he
    obtain ⟨t, h3⟩ := h.below_head he
    exact List.mem_of_getElem? (h2 0 e.id (by rw [h3]; rfl))
theorem Dm.Good.order_len {M : Dm} (h : M.Good) : (M.below 32 M.root).length = M.els.length := by
  have q1 := nodup_len (m := M.els.map El.id) h.order_once fun x hx => by
    obtain ⟨e, he, rfl⟩ := h.order_mem.1 hx
    exact List.mem_map.2 ⟨e, he, rfl⟩
  have q2 := nodup_len (l := M.els.map El.id) (m := M.below 32 M.root) (ids_nodup h.wf.up) fun x hx => by
    obtain ⟨e, he, rfl⟩ := List.mem_map.1 hx
    exact h.order_mem.2 ⟨e, he, rfl⟩
  simp at q1 q2; omega
end Go

/- WALK over dom: wrong of an element by itself that may be. -/
namespace Go.Proofs.YtdbddnkjiehaiaaGreat
open Go.Maps Go.RowKit Go.Sort
set_option maxRecDepth 100000 in
set_option maxHeartbeats 8000000 in
theorem domWrong_any (w : World) (e : El) (last : Int) (ka aa : Option Addr) (kc ac : Nat) (ha : SlAt w (fun _ => True) 2 AtR (.slice aa e.at'.length ac) e.at') (hw : e.Wf) (hf : e.Fit) (hu : UpA e.at') (hs : ∀ x ∈ e.at', x.2.size ≤ 256) (hl : last < e.id) (h0 : 0 ≤ e.id) (h1 : e.id ≤ 1073741824) :
    Calls Tryz.prog 10 #[.agg #[.int .i64 e.id, .int .i64 e.p, .string e.tag, .slice ka e.ks.length kc, .slice aa e.at'.length ac, .int .i64 e.bx.ty, .string e.bx.nm, .int .i64 e.bx.a, .int .i64 e.bx.b, .int .i64 e.bx.c, .int .i64 e.bx.d], .int .i64 last] w (Gives w (.int .i64 0)) := by
  obtain ⟨id, p, tag, ks, at', ty, nm, b1, b2, b3, b4⟩ := e
  have A1 := Lib.hid (ats_get ha).2
  obtain ⟨w1, w2, w3, w4, w5, w6, w7, w8⟩ := hw
  obtain ⟨f1, f2, f3⟩ := hf
  have hmb := fun W => mayBox_any ty nm b1 b2 b3 b4 W w6.2.1 w6.2.2.1.1 w6.2.2.1.2 w6.2.2.2.1.1 w6.2.2.2.1.2 w6.2.2.2.2.1.1 w6.2.2.2.2.1.2 w6.2.2.2.2.2.1 w6.2.2.2.2.2.2
  have hmt := fun W => mayName_any tag W w3
  simp only [boxE] at *
  rw [f3] at hmb
  rw [f1] at hmt
  have HMB := Lib.hid hmb
  have HMT := Lib.hid hmt
  have HMN := Lib.hid (fun (x : ByteArray × ByteArray) (hx : x ∈ at') (W : World) => (show Calls Tryz.prog 40 #[.string x.1] W (Gives W (.bool true)) from f2 x hx ▸ mayName_any x.1 W (w5 x hx).1))
  have HU := Lib.hid hu; have HS := Lib.hid hs
  have h16 := w7
  clear hmb hmt ha w1 w2 w3 w4 w5 w6 w7 w8 f1 f2 f3 hu hs
  have i0 : ¬ id < 0 := by omega
  have i2 : ¬ (1073741824 : Int) < id := by omega
  have i3 : ¬ id ≤ last := by omega
  have i4 : ¬ (16 : Int) < (at'.length : Int) := by omega
  go_enter Tryz.func10, Tryz.ntmps10
  go_upto_region 8 with (go_at_call 40; (with_reducible refine (HMT.out _).mono ?_); rintro e w1 ⟨rfl, x1, rfl⟩)
  refine abs_rows (w := w) (G := fun W => Code.wp _ _ _ _ W) (by repeat (with_reducible first | assumption | exact grA | apply grB | apply grC | apply grD | refine grE ?_ (by omega) _ | refine grF ?_ (by omega) _ _)) [(w.heap.size, .cells #[.int .i64 id, .int .i64 p, .string tag, .slice ka ks.length kc, .slice aa at'.length ac, .int .i64 ty, .string nm, .int .i64 b1, .int .i64 b2, .int .i64 b3, .int .i64 b4] 49)] (by simp [go_sem, *]) ?_
  intro w2 gw2 hl
  simp only [List.forall_mem_cons, List.not_mem_nil, false_implies, implies_true, and_true] at hl
  have hr1 := hl
  have zhr1 := row_sz' hr1
  have hw2 := gw2
  have z1 := zhr1
  clear zhr1
  generalize w.heap.size = n0 at *
  go_loopg [35] at'.length (fun gn v35 wj => ∃ i : Nat, Hid (gn + i = at'.length ∧ i ≤ at'.length) ∧ v35 = .int .i64 i ∧ w2.grows wj)
  case atStart => exact ⟨0, Lib.hid ⟨by simp, Nat.zero_le _⟩, by go_num, (by repeat (with_reducible first | assumption | exact grA | apply grB | apply grC | apply grD | refine grE ?_ (by omega) _ | refine grF ?_ (by omega) _ _))⟩
  case round =>
    obtain ⟨i, HQ, rfl, hgj⟩ := hrel
    obtain ⟨j1, j2⟩ := HQ.out
    have q1 : wr.row n0 = _ := (hgj.row_eq z1.1).trans hr1
    have y1 := row_sz' q1
    have hwr := hw2.trans hgj
    by_cases hlt : i < at'.length
    · have k1 : (i : Int) < (at'.length : Int) := by omega
      rcases A1.out with h0 | ⟨p1, o1, rfl, e1⟩
      · rw [h0] at hlt; simp at hlt
      have hgt := List.getElem?_eq_getElem hlt
      have k2 := ((e1 i _ hgt).grows hw2).grows hgj
      have hmem := List.getElem_mem hlt
      have HN := Lib.hid (HMN.out _ hmem)
      have hsz := HS.out _ hmem
      have hsI : ¬ (256 : Int) < (at'[i].2.size : Int) := by omega
      have z3 := lt_sz k2.lt
      have hr3 : w.grows wr := hwr
      rcases Nat.eq_zero_or_pos i with hi0 | hi0
      · subst hi0
        generalize at'[0] = x at *
        obtain ⟨u1, u2⟩ := k2
        rw [show [Value.string x.1, Value.string x.2].length = 2 from rfl, Nat.zero_mul, Nat.add_zero] at u1 u2
        clear e1 hgt
        go_upto_region 10 with fail
        refine wp_region_plus_lit (by kernel_rfl) (by kernel_rfl) ?_
        repeat (go_big_quiet_step ((go_at_call 40; (with_reducible exact Calls.plus_of (HN.out _)))))
        (refine wpQuiet_nil ?_; intro _ hw'; obtain ⟨xq, hw''⟩ := hw'; subst hw'')
        go_wp2_with fail
        go_roundg (at'.length - 1)
        case measure => omega
        case rel => exact ⟨1, Lib.hid ⟨by omega, by omega⟩, by go_num, (by repeat (with_reducible first | assumption | exact grA | apply grB | apply grC | apply grD | refine grE ?_ (by omega) _ | refine grF ?_ (by omega) _ _))⟩
      · have k4 : (0 : Int) < (i : Int) := by omega
        obtain ⟨j, rfl⟩ : ∃ j, i = j + 1 := ⟨i - 1, by omega⟩
        have hgt2 : at'[j]? = some (at'[j]'(by omega)) := List.getElem?_eq_getElem _
        have k3 := ((e1 j _ hgt2).grows hw2).grows hgj
        have hlt2 := List.pairwise_iff_getElem.1 HU.out j (j + 1) (by omega) hlt (by omega)
        generalize at'[j + 1] = x at *
        generalize at'[j]'(by omega) = y at *
        obtain ⟨u1, u2⟩ := k2
        have z4 := lt_sz k3.lt
        have c3 := k3.cell (j := 0) rfl
        rw [World.cell?_row, Nat.add_zero] at c3
        clear k3
        rw [show [Value.string x.1, Value.string x.2].length = 2 from rfl] at u1 u2
        have hb1 : Op.bytesLess x.1.toList y.1.toList = false := by
          rw [bytesLess_eq, ByteArray.toList_eq, ByteArray.toList_eq]
          exact decide_eq_false (List.not_lt.2 (List.le_of_lt hlt2))
        have hb2 : (x.1.toList == y.1.toList) = false := by
          rw [ByteArray.toList_eq, ByteArray.toList_eq]
          exact beq_eq_false_iff_ne.2 fun hh => by rw [hh] at hlt2; exact List.lt_irrefl _ hlt2
        have hb3 : ¬ x.1.toList = y.1.toList := by simpa using hb2
        clear e1 hgt hgt2
        go_upto_region 10 with fail
        refine wp_region_plus_lit (by kernel_rfl) (by kernel_rfl) ?_
        repeat (go_big_quiet_step ((go_at_call 40; (with_reducible exact Calls.plus_of (HN.out _)))))
        (refine wpQuiet_nil ?_; intro _ hw'; obtain ⟨xq, hw''⟩ := hw'; subst hw'')
        go_wp2_with fail
        go_roundg (at'.length - (j + 1 + 1))
        case measure => omega
        case rel => exact ⟨j + 1 + 1, Lib.hid ⟨by omega, by omega⟩, by go_num, (by repeat (with_reducible first | assumption | exact grA | apply grB | apply grC | apply grD | refine grE ?_ (by omega) _ | refine grF ?_ (by omega) _ _))⟩
    · have k1 : ¬ (i : Int) < (at'.length : Int) := by omega
      go_wp2_with (go_at_call 41; (with_reducible refine (HMB.out _).mono ?_); rintro e w1 ⟨rfl, x1, rfl⟩)
      go_ret
      exact ⟨rfl, (by repeat (with_reducible first | assumption | exact grA | apply grB | apply grC | apply grD | refine grE ?_ (by omega) _ | refine grF ?_ (by omega) _ _))⟩
end Go.Proofs.YtdbddnkjiehaiaaGreat

/- LAWS: all kids of a tree's elements, each once: one fewer than there are elements. No condition; no program. -/
namespace Go
open Go.RowKit
def kidsOf (M : Dm) (i : Int) : List Int := match M.at i with | none => [] | some e => e.ks
theorem kidsOf_at {M : Dm} (h : M.Wf) {e : El} (he : e ∈ M.els) : kidsOf M e.id = e.ks := by
  unfold kidsOf
  rw [show M.at e.id = some e from findE_of h.up he]
theorem Dm.Good.kids_once {M : Dm} (h : M.Good) {vs : List Int} (nd : vs.Nodup) (sub : ∀ x ∈ vs, ∃ e ∈ M.els, e.id = x) : (vs.flatMap (kidsOf M)).Nodup ∧ ∀ x ∈ vs.flatMap (kidsOf M), (∃ e ∈ M.els, e.id = x) ∧ x ≠ M.root := by
  have hmem : ∀ x ∈ vs.flatMap (kidsOf M), (∃ e ∈ M.els, e.id = x) ∧ x ≠ M.root := fun x hx => by
    obtain ⟨i, hi, hxi⟩ := List.mem_flatMap.1 hx
    obtain ⟨e, he, rfl⟩ := sub i hi
    rw [kidsOf_at h.wf he] at hxi
    obtain ⟨f, hf, h1, _, h2⟩ := h.wf.kid e he x hxi
    exact ⟨⟨f, hf, h1⟩, h2⟩
  refine ⟨?_, hmem⟩
  unfold List.Nodup
  rw [List.pairwise_flatMap]
  refine ⟨fun i hi => ?_, nd.imp_of_mem fun {i j} hi hj hne x hx y hy hxy => ?_⟩
  · obtain ⟨e, he, rfl⟩ := sub i hi
    rw [kidsOf_at h.wf he]; exact h.wf.once e he
  · subst hxy
    obtain ⟨e, he, rfl⟩ := sub i hi
    obtain ⟨f, hf, rfl⟩ := sub j hj
    rw [kidsOf_at h.wf he] at hx
    rw [kidsOf_at h.wf hf] at hy
    obtain ⟨p, hp, p1, p2, _⟩ := h.wf.kid e he x hx
    obtain ⟨q, hq, q1, q2, _⟩ := h.wf.kid f hf x hy
    obtain rfl := ids_inj h.wf.up hp hq (p1.trans q1.symm)
    exact hne (p2.symm.trans q2)
theorem Dm.Good.kids_few {M : Dm} (h : M.Good) {vs : List Int} (nd : vs.Nodup) (sub : ∀ x ∈ vs, ∃ e ∈ M.els, e.id = x) : (vs.flatMap (kidsOf M)).length ≤ 256 := by
  obtain ⟨h1, h2⟩ := h.kids_once nd sub
  have := nodup_len (m := M.els.map El.id) h1 fun x hx => by
    obtain ⟨⟨e, he, h3⟩, _⟩ := h2 x hx
    exact List.mem_map.2 ⟨e, he, h3⟩
  have := h.wf.few
  simp at *; omega
theorem Dm.Good.kids_all {M : Dm} (h : M.Good) {vs : List Int} (nd : vs.Nodup) (sub : ∀ x ∈ vs, ∃ e ∈ M.els, e.id = x) (all : ∀ e ∈ M.els, e.id ∈ vs) : (vs.flatMap (kidsOf M)).length + 1 = M.els.length := by
  obtain ⟨h1, h2⟩ := h.kids_once nd sub
  obtain ⟨r, hr, hr1, _⟩ := h.wf.rootE
  have hm : M.root ∈ M.els.map El.id := List.mem_map.2 ⟨r, hr, hr1⟩
  have hn := ids_nodup h.wf.up
  have h3 := List.length_erase_of_mem hm
  have q1 := nodup_len (m := (M.els.map El.id).erase M.root) h1 fun x hx => by
    obtain ⟨⟨e, he, h4⟩, h5⟩ := h2 x hx
    exact (List.mem_erase_of_ne h5).2 (List.mem_map.2 ⟨e, he, h4⟩)
  have q2 := nodup_len (l := (M.els.map El.id).erase M.root) (m := vs.flatMap (kidsOf M)) (hn.sublist List.erase_sublist) fun x hx => by
    have hne : x ≠ M.root := fun hh => by
      subst hh
      exact (List.Nodup.not_mem_erase hn) hx
    obtain ⟨e, he, rfl⟩ := List.mem_map.1 (List.mem_of_mem_erase hx)
    obtain ⟨f, hf, _, hk⟩ := h.par e he hne
    exact List.mem_flatMap.2 ⟨f.id, all f hf, by rw [kidsOf_at h.wf hf]; exact hk⟩
  have := List.length_pos_of_mem hm
  rw [h3] at q1 q2
  simp at *; omega
end Go

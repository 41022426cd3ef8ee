/- Texts of the walk, one after the other; what each proves stands ahead of it. -/
import Derived.Test.YtdbddnkjiehaiaaGreatMj
set_option linter.unusedSimpArgs false
set_option linter.unusedVariables false
/- WALK over jalousielaw8: step. No condition but that a tree stands in memory. -/
namespace Go
/-- a step at a tree -/
structure Opn where
  kind : Int
  id : Int
  pl : Int
  nm : ByteArray
  vl : ByteArray
  bx : Bx
abbrev opC (o : Opn) : List Value := [.int .i64 o.kind, .int .i64 o.id, .int .i64 o.pl, .string o.nm, .string o.vl, .int .i64 o.bx.ty, .string o.bx.nm, .int .i64 o.bx.a, .int .i64 o.bx.b, .int .i64 o.bx.c, .int .i64 o.bx.d]
def Opn.Ok (o : Opn) : Prop := I64 o.kind ∧ I64 o.id ∧ I64 o.pl ∧ o.nm.size ≤ maxLen ∧ o.vl.size ≤ maxLen ∧ o.bx.Wf
def Opn.okB (o : Opn) : Bool := Go.Proofs.YtdbddnkjiehaiaaGreat.boxB o.bx.ty o.bx.nm.data.toList o.bx.a o.bx.b o.bx.c o.bx.d
def Dm.step (M : Dm) (o : Opn) : Int × Int × Dm :=
  if o.kind = 0 then M.ins o.id o.pl o.nm
  else if o.kind = 1 then (0, M.rem o.id)
  else if o.kind = 2 then (0, M.set o.id o.nm o.vl)
  else if o.kind = 3 then (0, M.unset o.id o.nm)
  else if o.kind = 4 then (0, M.box o.id o.bx o.okB)
  else (0, 0, M)
/-- what else holds of a tree: each hangs below its parent, attributes rise -/
structure Dm.Good (M : Dm) : Prop where
  wf : M.Wf
  par : M.Par
  ups : M.Ups
theorem ups_upd {M : Dm} (h : M.Ups) (id : Int) (f : El → El) (hf : ∀ e ∈ M.els, UpA (f e).at') : Dm.Ups ⟨M.root, M.next, updE M.els id f⟩ := fun x hx => by
  obtain ⟨y, hy, rfl⟩ := updE_mem.1 hx
  split
  · exact hf y hy
  · exact h y hy
theorem good_upd {M : Dm} (h : M.Good) (id : Int) (f : El → El) (h1 : ∀ e, (f e).id = e.id) (h2 : ∀ e, (f e).p = e.p) (h3 : ∀ e, (f e).ks = e.ks) (hf : ∀ e ∈ M.els, UpA (f e).at') : Dm.Good ⟨M.root, M.next, updE M.els id f⟩ :=
  ⟨h.wf.upd id f h1 h2 h3, h.par.upd id f h1 h2 h3, ups_upd h.ups id f hf⟩
theorem Dm.Good.ins {M : Dm} (h : M.Good) (p a : Int) (t : ByteArray) : (M.ins p a t).2.2.Good := by
  unfold Dm.ins
  cases hat : M.at p with
  | none => exact h
  | some e =>
    obtain ⟨he, rfl⟩ := findE_some hat
    simp only
    by_cases b1 : a < 0 ∨ (e.ks.length : Int) < a
    · rw [if_pos b1]; exact h
    rw [if_neg b1]
    by_cases b2 : nameB t.data.toList = false
    · rw [if_pos b2]; exact h
    rw [if_neg b2]
    by_cases b3 : 256 ≤ M.els.length ∨ 1073741824 < M.next
    · rw [if_pos b3]; exact h
    rw [if_neg b3]
    by_cases b4 : 32 ≤ M.deep 32 e.id
    · rw [if_pos b4]; exact h
    rw [if_neg b4]
    obtain ⟨q1, q2⟩ := Dm.ins_wf h.wf h.par he a.toNat t (by omega) (by omega) (by omega)
    refine ⟨q1, q2, fun x hx => ?_⟩
    rcases List.mem_append.1 hx with hx | hx
    · exact ups_upd h.ups e.id (insE a.toNat M.next) (fun y hy => h.ups y hy) x hx
    · simp only [List.mem_singleton] at hx
      subst hx; exact List.Pairwise.nil
theorem Dm.Good.rem {M : Dm} (h : M.Good) (i : Int) : (M.rem i).2.Good := by
  unfold Dm.rem
  cases hat : M.at i with
  | none => exact h
  | some e =>
    obtain ⟨he, rfl⟩ := findE_some hat
    simp only
    by_cases b1 : e.id = M.root
    · rw [if_pos b1]; exact h
    rw [if_neg b1]
    obtain ⟨q1, q2⟩ := Dm.rem_wf h.wf h.par he b1
    exact ⟨q1, q2, fun x hx => ups_upd h.ups e.p (remE e.id) (fun y hy => h.ups y hy) x (List.mem_filter.1 hx).1⟩
theorem Dm.Good.set {M : Dm} (h : M.Good) (i : Int) (n v : ByteArray) : (M.set i n v).2.Good := by
  unfold Dm.set
  cases hat : M.at i with
  | none => exact h
  | some e =>
    simp only
    by_cases b2 : nameB n.data.toList = false
    · rw [if_pos b2]; exact h
    rw [if_neg b2]
    by_cases b3 : 256 < v.size
    · rw [if_pos b3]; exact h
    rw [if_neg b3]
    by_cases b4 : 16 < (putA e.at' n v).length
    · rw [if_pos b4]; exact h
    rw [if_neg b4]
    exact good_upd h i _ (fun _ => rfl) (fun _ => rfl) (fun _ => rfl) (fun y hy => putA_up (h.ups y hy) n v)
theorem Dm.Good.unset {M : Dm} (h : M.Good) (i : Int) (n : ByteArray) : (M.unset i n).2.Good := by
  unfold Dm.unset
  cases hat : M.at i with
  | none => exact h
  | some e =>
    simp only
    split
    · exact h
    · exact good_upd h i _ (fun _ => rfl) (fun _ => rfl) (fun _ => rfl) (fun y hy => List.Pairwise.filter _ (h.ups y hy))
theorem Dm.Good.box {M : Dm} (h : M.Good) (i : Int) (b : Bx) (ok : Bool) : (M.box i b ok).2.Good := by
  unfold Dm.box
  cases hat : M.at i with
  | none => exact h
  | some e =>
    simp only
    split
    · exact h
    · exact good_upd h i _ (fun _ => rfl) (fun _ => rfl) (fun _ => rfl) (fun y hy => h.ups y hy)
theorem Dm.Good.step {M : Dm} (h : M.Good) (o : Opn) : (M.step o).2.2.Good := by
  unfold Dm.step
  split
  · exact h.ins _ _ _
  split
  · exact h.rem _
  split
  · exact h.set _ _ _
  split
  · exact h.unset _ _
  split
  · exact h.box _ _ _
  · exact h
end Go
namespace Go.Proofs.YtdbddnkjiehaiaaGreat
open Go.Maps Go.RowKit Go.Sort
theorem newM_good (tag : ByteArray) : (newM tag).Good := ⟨newM_wf tag, newM_par tag, fun x hx => by simp [newM] at hx; subst hx; exact List.Pairwise.nil⟩
/-- an edit's end without its answer -/
def Edt (w : World) (L : Ly) (M M' : Dm) (w' : World) : Prop := ∃ L' : Ly, L'.t = L.t ∧ Chg (L.own M.els) w (L'.own M'.els) w' ∧ TreeAt w' L' M'
theorem Edt.pre {w w1 w' : World} {L : Ly} {M M' : Dm} (hg : w.grows w1) (h : Edt w1 L M M' w') : Edt w L M M' w' := by
  obtain ⟨L', h1, h2, h3⟩ := h
  exact ⟨L', h1, ((Chg.refl _ w).grow hg).trans h2, h3⟩
theorem Edt.post {w w1 w' : World} {L : Ly} {M M' : Dm} (hg : w1.grows w') (h : Edt w L M M' w1) : Edt w L M M' w' := by
  obtain ⟨L', h1, h2, h3⟩ := h
  exact ⟨L', h1, h2.grow hg, h3.grows hg⟩

set_option maxRecDepth 100000 in
set_option maxHeartbeats 8000000 in
theorem step_any (w : World) (L : Ly) (M : Dm) (h : TreeAt w L M) (hG : M.Good) (o : Opn) (ho : o.Ok) : Calls Tryz.prog 8 #[.pointer (some ⟨L.t, 0, none⟩), .agg (opC o).toArray] w (Edit w L M (M.step o).2.2 (.tuple #[.int .i64 (M.step o).1, .int .i64 (M.step o).2.1])) := by
  have hA : w.grows (w.alloc (.cells (opC o).toArray 40)) := (by repeat (with_reducible first | assumption | exact grA | apply grB | apply grC | apply grD | refine grE ?_ (by omega) _ | refine grF ?_ (by omega) _ _))
  have hT := h.grows hA
  obtain ⟨w1, w2, w3, w4, w5, w6⟩ := ho
  have H0 := Lib.hid (domIns_any _ L M hT hG.par o.id o.pl o.nm w2 w3 w4)
  have H1 := Lib.hid (domRem_any _ L M hT hG.par o.id w2)
  have H2 := Lib.hid (domSet_any _ L M hT hG.ups o.id o.nm o.vl w2 w4 w5)
  have H3 := Lib.hid (domUnset_any _ L M hT hG.ups o.id o.nm w2)
  have H4 := Lib.hid (domBox_any _ L M hT o.id o.bx w2 w6)
  have HA := Lib.hid hA
  have HT := Lib.hid h
  clear hA hT h hG w1 w2 w3 w4 w5 w6
  unfold Dm.step
  by_cases k0 : o.kind = 0
  · rw [if_pos k0]
    obtain ⟨kind, id, pl, nm, vl, bx⟩ := o
    simp only at k0 H0 HA ⊢
    subst k0
    clear H1 H2 H3 H4
    go_enter Tryz.func8, Tryz.ntmps8
    go_wp2_with (go_at_call 21; go_loud ((with_reducible refine (H0.out).mono ?_); rintro r w1 ⟨rfl, hE⟩))
    go_ret2
    exact ⟨rfl, Edt.pre HA.out hE⟩
  rw [if_neg k0]
  by_cases k1 : o.kind = 1
  · rw [if_pos k1]
    obtain ⟨kind, id, pl, nm, vl, bx⟩ := o
    simp only at k1 H1 HA ⊢
    subst k1
    clear H0 H2 H3 H4 k0
    go_enter Tryz.func8, Tryz.ntmps8
    go_wp2_with (go_at_call 31; go_loud ((with_reducible refine (H1.out).mono ?_); rintro r w1 ⟨rfl, hE⟩))
    go_ret2
    exact ⟨rfl, Edt.pre HA.out hE⟩
  rw [if_neg k1]
  by_cases k2 : o.kind = 2
  · rw [if_pos k2]
    obtain ⟨kind, id, pl, nm, vl, bx⟩ := o
    simp only at k2 H2 HA ⊢
    subst k2
    clear H0 H1 H3 H4 k0 k1
    go_enter Tryz.func8, Tryz.ntmps8
    go_wp2_with (go_at_call 32; go_loud ((with_reducible refine (H2.out).mono ?_); rintro r w1 ⟨rfl, hE⟩))
    go_ret2
    exact ⟨rfl, Edt.pre HA.out hE⟩
  rw [if_neg k2]
  by_cases k3 : o.kind = 3
  · rw [if_pos k3]
    obtain ⟨kind, id, pl, nm, vl, bx⟩ := o
    simp only at k3 H3 HA ⊢
    subst k3
    clear H0 H1 H2 H4 k0 k1 k2
    go_enter Tryz.func8, Tryz.ntmps8
    go_wp2_with (go_at_call 33; go_loud ((with_reducible refine (H3.out).mono ?_); rintro r w1 ⟨rfl, hE⟩))
    go_ret2
    exact ⟨rfl, Edt.pre HA.out hE⟩
  rw [if_neg k3]
  by_cases k4 : o.kind = 4
  · rw [if_pos k4]
    obtain ⟨kind, id, pl, nm, vl, bx⟩ := o
    unfold Opn.okB
    simp only at k4 H4 HA ⊢
    subst k4
    clear H0 H1 H2 H3 k0 k1 k2 k3
    go_enter Tryz.func8, Tryz.ntmps8
    go_wp2_with (go_at_call 34; go_loud ((with_reducible refine (H4.out).mono ?_); rintro r w1 ⟨rfl, hE⟩))
    go_ret2
    exact ⟨rfl, Edt.pre HA.out hE⟩
  rw [if_neg k4]
  obtain ⟨kind, id, pl, nm, vl, bx⟩ := o
  simp only at k0 k1 k2 k3 k4 HA ⊢
  clear H0 H1 H2 H3 H4
  go_enter Tryz.func8, Tryz.ntmps8
  go_wp2_with fail
  go_ret2
  exact ⟨rfl, Edit.no (v := undef) HT.out HA.out⟩
end Go.Proofs.YtdbddnkjiehaiaaGreat

/- PLAIN: edits of unlike elements' attributes and boxes change places. No condition; no program. -/
namespace Go
theorem updE_self (l : List El) (i : Int) : updE l i (fun e => e) = l := by
  unfold updE
  have : (fun e : El => if e.id = i then e else e) = id := by funext e; split <;> rfl
  rw [this, List.map_id]
theorem updE_comm {l : List El} {a b : Int} (h : a ≠ b) {f g : El → El} (hf : ∀ e, (f e).id = e.id) (hg : ∀ e, (g e).id = e.id) : updE (updE l a f) b g = updE (updE l b g) a f := by
  unfold updE
  rw [List.map_map, List.map_map]
  refine List.map_congr_left fun e _ => ?_
  show (if (if e.id = a then f e else e).id = b then g (if e.id = a then f e else e) else (if e.id = a then f e else e)) = (if (if e.id = b then g e else e).id = a then f (if e.id = b then g e else e) else (if e.id = b then g e else e))
  by_cases h1 : e.id = a
  · have h2 : e.id ≠ b := fun h2 => h (h1.symm.trans h2)
    rw [if_pos h1, if_neg (by rw [hf]; exact h2), if_neg h2, if_pos h1]
  · by_cases h2 : e.id = b
    · rw [if_neg h1, if_pos h2, if_neg (by rw [hg]; exact h1)]
    · rw [if_neg h1, if_neg h2, if_neg h1]
/-- a step of kind 2 or more looks at its element alone, and changes it alone -/
theorem step_one (o : Opn) (h : 2 ≤ o.kind) : ∃ (c : Option El → Int) (f : El → El), (∀ e, (f e).id = e.id) ∧ ∀ M : Dm, M.step o = (0, c (M.at o.id), if c (M.at o.id) = 0 then ⟨M.root, M.next, updE M.els o.id f⟩ else M) := by
  have n0 : ¬ o.kind = 0 := by omega
  have n1 : ¬ o.kind = 1 := by omega
  by_cases k2 : o.kind = 2
  · refine ⟨fun x => match x with | none => 5 | some e => if nameB o.nm.data.toList = false then 10 else if 256 < o.vl.size then 2 else if 16 < (putA e.at' o.nm o.vl).length then 6 else 0, fun e => { e with at' := putA e.at' o.nm o.vl }, fun _ => rfl, fun M => ?_⟩
    unfold Dm.step
    rw [if_neg n0, if_neg n1, if_pos k2]
    unfold Dm.set
    cases M.at o.id with
    | none => rfl
    | some e =>
      simp only
      split
      · rfl
      split
      · rfl
      split
      · rfl
      · rfl
  by_cases k3 : o.kind = 3
  · refine ⟨fun x => match x with | none => 5 | some e => if e.at'.all (fun x => decide (x.1 ≠ o.nm)) then 10 else 0, fun e => { e with at' := e.at'.filter fun x => decide (x.1 ≠ o.nm) }, fun _ => rfl, fun M => ?_⟩
    unfold Dm.step
    rw [if_neg n0, if_neg n1, if_neg k2, if_pos k3]
    unfold Dm.unset
    cases M.at o.id with
    | none => rfl
    | some e =>
      simp only
      split
      · rfl
      · rfl
  by_cases k4 : o.kind = 4
  · refine ⟨fun x => match x with | none => 5 | some _ => if o.okB = false then 8 else 0, fun e => { e with bx := o.bx }, fun _ => rfl, fun M => ?_⟩
    unfold Dm.step
    rw [if_neg n0, if_neg n1, if_neg k2, if_neg k3, if_pos k4]
    unfold Dm.box
    cases M.at o.id with
    | none => rfl
    | some e =>
      simp only
      split
      · rfl
      · rfl
  · refine ⟨fun _ => 0, fun e => e, fun _ => rfl, fun M => ?_⟩
    unfold Dm.step
    rw [if_neg n0, if_neg n1, if_neg k2, if_neg k3, if_neg k4, if_pos rfl, updE_self]
theorem at_upd {M : Dm} {a b : Int} (h : a ≠ b) {f : El → El} (hf : ∀ e, (f e).id = e.id) : Dm.at ⟨M.root, M.next, updE M.els a f⟩ b = M.at b := by
  unfold Dm.at
  rw [Go.Proofs.YtdbddnkjiehaiaaGreat.findE_upd hf]
  cases hx : findE M.els b with
  | none => rfl
  | some e =>
    obtain ⟨_, h2⟩ := findE_some hx
    show some (if e.id = a then f e else e) = some e
    rw [if_neg (by rw [h2]; exact fun e => h e.symm)]
/-- two such steps at unlike elements: either way the same -/
theorem step_comm (a b : Opn) (ha : 2 ≤ a.kind) (hb : 2 ≤ b.kind) (h : a.id ≠ b.id) (M : Dm) :
    (M.step a).2.1 = ((M.step b).2.2.step a).2.1 ∧ ((M.step a).2.2.step b).2.1 = (M.step b).2.1 ∧ ((M.step a).2.2.step b).2.2 = ((M.step b).2.2.step a).2.2 := by
  obtain ⟨c, f, hf, A⟩ := step_one a ha
  obtain ⟨d, g, hg, B⟩ := step_one b hb
  have a1 : ∀ {x y : Int} {f : El → El}, x ≠ y → (∀ e, (f e).id = e.id) → Dm.at ⟨M.root, M.next, updE M.els x f⟩ y = M.at y := fun h1 h2 => at_upd h1 h2
  rw [A M, B M]
  simp only
  by_cases h1 : c (M.at a.id) = 0
  · by_cases h2 : d (M.at b.id) = 0
    · rw [if_pos h1, if_pos h2, A, B]
      simp only [a1 h hf, a1 (Ne.symm h) hg, h1, h2, if_true, true_and]
      rw [updE_comm h hf hg]
    · rw [if_pos h1, if_neg h2, A, B]
      simp only [a1 h hf, h1, h2, if_true, if_false, true_and, and_self]
  · by_cases h2 : d (M.at b.id) = 0
    · rw [if_neg h1, if_pos h2, A, B]
      simp only [a1 (Ne.symm h) hg, h1, h2, if_true, if_false, true_and, and_self]
    · rw [if_neg h1, if_neg h2, A, B]
      simp only [h1, h2, if_false, true_and, and_self]
end Go

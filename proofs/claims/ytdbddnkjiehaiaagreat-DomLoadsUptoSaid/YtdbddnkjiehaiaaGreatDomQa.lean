/- WALKS over jalousieref8: At, Depth, Root, Below, Order. No condition but that a row of elements stands in memory. -/
import Derived.Test.YtdbddnkjiehaiaaGreatMl
set_option linter.unusedSimpArgs false
set_option linter.unusedVariables false
namespace Go
open Go.RowKit
/-- where an element stands in the row; -1 if there is none -/
def posE (l : List El) (id : Int) : Int := match l.findIdx? (fun e => decide (e.id = id)) with | some k => (k : Int) | none => -1
theorem posE_of {l : List El} {id : Int} {k : Nat} {e : El} (hk : l[k]? = some e) (he : e.id = id) (h : ∀ j f, j < k → l[j]? = some f → f.id ≠ id) : posE l id = (k : Int) := by
  have hkl := (List.getElem?_eq_some_iff.1 hk).1
  have hke := (List.getElem?_eq_some_iff.1 hk).2
  have : l.findIdx? (fun e => decide (e.id = id)) = some k := by
    rw [List.findIdx?_eq_some_iff_getElem]
    refine ⟨hkl, by rw [hke]; exact decide_eq_true he, fun j hj => ?_⟩
    have := h j _ hj (List.getElem?_eq_getElem (by omega))
    simpa using this
  unfold posE; rw [this]
theorem posE_none {l : List El} {id : Int} (h : ∀ e ∈ l, e.id ≠ id) : posE l id = -1 := by
  have : l.findIdx? (fun e => decide (e.id = id)) = none := by
    rw [List.findIdx?_eq_none_iff]
    intro e he; simpa using h e he
  unfold posE; rw [this]
/-- an element's place -/
theorem posE_at {l : List El} (h : l.Pairwise fun a b => a.id < b.id) {e : El} (he : e ∈ l) : ∃ k : Nat, posE l e.id = (k : Int) ∧ k < l.length ∧ l[k]? = some e := by
  obtain ⟨k, hk, rfl⟩ := List.mem_iff_getElem.1 he
  refine ⟨k, posE_of (List.getElem?_eq_getElem hk) rfl fun j f hj hf => ?_, hk, List.getElem?_eq_getElem hk⟩
  obtain ⟨hjl, rfl⟩ := List.getElem?_eq_some_iff.1 hf
  have := List.pairwise_iff_getElem.1 h j k hjl hk hj
  omega
end Go
namespace Go.Proofs.YtdbddnkjiehaiaaGreat
open Go.Maps Go.RowKit Go.Sort
/-- a row of elements that can be read -/
structure RefR (w : World) (t : Nat) (v : Value) (M : Dm) : Prop where
  head : w.row t = some (.cells #[v, .int .i64 M.next] 58)
  els : ElsAt w v M.els
theorem RefR.grows {w W : World} {t : Nat} {v : Value} {M : Dm} (h : RefR w t v M) (hg : w.grows W) : RefR W t v M := ⟨(hg.row_eq (row_sz' h.head).1).trans h.head, h.els.grows hg⟩

set_option maxRecDepth 100000 in
set_option maxHeartbeats 8000000 in
theorem refAt_any (w : World) (t : Nat) (v : Value) (M : Dm) (h : RefR w t v M) (hfew : M.els.length ≤ 256) (id : Int) : Calls Tryz.prog 43 #[.pointer (some ⟨t, 0, none⟩), .int .i64 id] w (Gives w (.int .i64 (posE M.els id))) := by
  obtain ⟨a0, c0, rfl, _⟩ := h.els.len
  have hx := h.head
  have zx := row_sz' hx
  have HG := Lib.hid (els_get h.els).2
  clear h
  generalize M.els = l at *
  generalize M.next = nx at *
  go_enter Tryz.func43, Tryz.ntmps43
  go_wp2_with fail
  go_loopg [12] l.length (fun gn v12 wj => ∃ i : Nat, Hid (gn + i = l.length ∧ i ≤ l.length) ∧ v12 = .int .i64 i ∧ w.grows wj ∧ Hid (∀ j f, j < i → l[j]? = some f → f.id ≠ id))
  case atStart => exact ⟨0, Lib.hid ⟨by simp, Nat.zero_le _⟩, by go_num, (by repeat (with_reducible first | assumption | exact grA | apply grB | apply grC | apply grD | refine grE ?_ (by omega) _ | refine grF ?_ (by omega) _ _)), Lib.hid fun j f hj => by omega⟩
  case round =>
    obtain ⟨i, HQ, rfl, hgj, HN⟩ := hrel
    obtain ⟨j1, j2⟩ := HQ.out
    by_cases hlt : i < l.length
    · have i1 : (i : Int) < (l.length : Int) := by omega
      rcases HG.out with h0 | ⟨p1, o1, rfl, e1⟩
      · rw [h0] at hlt; simp at hlt
      have hgt := List.getElem?_eq_getElem hlt
      obtain ⟨cs, l1, k1, ka, aa, kc, ac, rfl, _, _⟩ := e1 i _ hgt
      have k1 := k1.grows hgj
      have hstep := fun (hne : l[i].id ≠ id) => (show ∀ j f, j < i + 1 → l[j]? = some f → f.id ≠ id from fun j f hj hf => by
        by_cases hji : j = i
        · subst hji; rw [hgt] at hf; cases hf; exact hne
        · exact HN.out j f (by omega) hf)
      have hfin := fun (he : l[i].id = id) => posE_of hgt he HN.out
      have HST := Lib.hid hstep; have HFI := Lib.hid hfin
      generalize l[i] = x at *
      have z1 := lt_sz k1.lt
      obtain ⟨u1, u2⟩ := k1
      rw [l1] at u1 u2
      clear e1 HG hgt hstep hfin hx zx
      by_cases hid : x.id = id
      · have hfi := HFI.out hid
        subst hid
        go_wp2_with fail
        go_ret
        exact ⟨by first | rfl | (rw [hfi]; rfl), (by repeat (with_reducible first | assumption | exact grA | apply grB | apply grC | apply grD | refine grE ?_ (by omega) _ | refine grF ?_ (by omega) _ _))⟩
      · have hst := Lib.hid (HST.out hid)
        go_wp2_with fail
        go_roundg (l.length - (i + 1))
        case measure => omega
        case rel => exact ⟨i + 1, Lib.hid ⟨by omega, by omega⟩, by go_num, (by repeat (with_reducible first | assumption | exact grA | apply grB | apply grC | apply grD | refine grE ?_ (by omega) _ | refine grF ?_ (by omega) _ _)), hst⟩
    · have i1 : ¬ (i : Int) < (l.length : Int) := by omega
      have hfi : posE l id = -1 := posE_none fun e he => by
        obtain ⟨j, hj, rfl⟩ := List.mem_iff_getElem.1 he
        exact HN.out j _ (by omega) (List.getElem?_eq_getElem hj)
      go_wp2_with fail
      go_ret
      exact ⟨by first | rfl | (rw [hfi]; rfl), hgj⟩

set_option maxRecDepth 100000 in
set_option maxHeartbeats 8000000 in
theorem refDepth_any (w : World) (t : Nat) (v : Value) (M : Dm) (h : RefR w t v M) (hG : M.Good) (e : El) (he : e ∈ M.els) : Calls Tryz.prog 19 #[.pointer (some ⟨t, 0, none⟩), .int .i64 e.id] w (Gives w (.int .i64 (M.deep 32 e.id))) := by
  obtain ⟨dep, d1, d2, d3⟩ := hG.wf.dep
  rw [Dm.deep_rank hG.wf hG.par d1 d2 32 e he (d3 e he)]
  have HAT := Lib.hid (fun (W : World) (hW : w.grows W) (id : Int) => refAt_any W t v M (h.grows hW) hG.wf.few id)
  obtain ⟨a0, c0, rfl, _⟩ := h.els.len
  have HR := Lib.hid h; have HGD := Lib.hid hG
  have HD := Lib.hid (⟨d1, d2, d3⟩ : Rank M dep)
  obtain ⟨k0, p0, q0, r0⟩ := posE_at hG.wf.up he
  have hl := hG.wf.few
  have hde := d3 e he
  have HE := Lib.hid he
  clear h hG d1 d2 d3 he
  go_enter Tryz.func19, Tryz.ntmps19
  go_upto_region 3 with (go_at_call 43; go_loud ((with_reducible refine (HAT.out _ (by repeat (with_reducible first | assumption | exact grA | apply grB | apply grC | apply grD | refine grE ?_ (by omega) _ | refine grF ?_ (by omega) _ _)) _).mono ?_); rintro r w1 ⟨rfl, hg1⟩))
  go_loopg [5, 6] (dep e.id) (fun gn v5 v6 wj => ∃ (d : Nat) (k : Int), Hid (gn + d = dep e.id ∧ ((∃ f ∈ M.els, k = posE M.els f.id ∧ d + dep f.id = dep e.id) ∨ (k = -1 ∧ d = dep e.id))) ∧ v5 = .int .i64 d ∧ v6 = .int .i64 k ∧ w.grows wj)
  case atStart => exact ⟨0, _, Lib.hid ⟨by omega, .inl ⟨e, HE.out, rfl, by omega⟩⟩, by go_num, by go_num, (by repeat (with_reducible first | assumption | exact grA | apply grB | apply grC | apply grD | refine grE ?_ (by omega) _ | refine grF ?_ (by omega) _ _))⟩
  case round =>
    obtain ⟨d, k, HQ, rfl, rfl, hgj⟩ := hrel
    obtain ⟨j1, hq⟩ := HQ.out
    have hrow := (HR.out.grows hgj).head
    have zr := row_sz' hrow
    rcases hq with ⟨f, hf, rfl, hdf⟩ | ⟨rfl, rfl⟩
    · obtain ⟨kf, p1, p2, p3⟩ := posE_at HGD.out.wf.up hf
      have i1 : (kf : Int) < (M.els.length : Int) := by omega
      rcases (els_get HR.out.els).2 with h0 | ⟨g1, o1, rfl, e1⟩
      · rw [h0] at p2; simp at p2
      obtain ⟨cs, l1, k1, ka, aa, kc, ac, rfl, _, _⟩ := e1 kf _ p3
      have k1 := k1.grows hgj
      have z1 := lt_sz k1.lt
      have c1 := k1.cell (j := 1) rfl
      rw [World.cell?_row] at c1
      have HP := Lib.hid p1
      rw [p1] at *
      clear e1 k1 p3 HQ
      have hdp : 1 ≤ dep f.id := Dm.dep_pos HD.out.1 HD.out.2.1 hf
      have hnew : Hid (((∃ f' ∈ M.els, posE M.els f.p = posE M.els f'.id ∧ (d + 1) + dep f'.id = dep e.id) ∨ (posE M.els f.p = -1 ∧ d + 1 = dep e.id))) := by
        by_cases hr : f.id = M.root
        · obtain ⟨r, hr1, hr2, hr3⟩ := HGD.out.wf.rootE
          obtain rfl := ids_inj HGD.out.wf.up hf hr1 (hr.trans hr2.symm)
          refine Lib.hid (.inr ⟨?_, ?_⟩)
          · rw [hr3]; exact posE_none fun y hy => by have := (HGD.out.wf.low y hy).1; omega
          · have := HD.out.1; rw [← hr2] at this; omega
        · obtain ⟨g, hg, hgp, _⟩ := HGD.out.par f hf hr
          have := HD.out.2.1 f hf hr
          exact Lib.hid (.inl ⟨g, hg, by rw [hgp], by rw [hgp]; omega⟩)
      go_wp2_with (go_at_call 43; go_loud ((with_reducible refine (HAT.out _ (by repeat (with_reducible first | assumption | exact grA | apply grB | apply grC | apply grD | refine grE ?_ (by omega) _ | refine grF ?_ (by omega) _ _)) _).mono ?_); rintro r w2 ⟨rfl, hg2⟩))
      go_roundg (dep e.id - (d + 1))
      case measure => omega
      case rel => exact ⟨d + 1, _, Lib.hid ⟨by omega, hnew.out⟩, by go_num, by go_num, hgj.trans hg2⟩
    · go_wp2_with fail
      go_ret
      exact ⟨rfl, hgj⟩

set_option maxRecDepth 100000 in
set_option maxHeartbeats 8000000 in
theorem refRoot_any (w : World) (t : Nat) (v : Value) (M : Dm) (h : RefR w t v M) (hG : M.Good) : Calls Tryz.prog 25 #[.pointer (some ⟨t, 0, none⟩)] w (Gives w (.int .i64 M.root)) := by
  obtain ⟨a0, c0, rfl, _⟩ := h.els.len
  have hx := h.head
  have zx := row_sz' hx
  have HG := Lib.hid (els_get h.els).2
  have hfew := hG.wf.few
  have hone : ∀ e ∈ M.els, e.p = -1 → e.id = M.root := fun e he hp => by
    apply Classical.byContradiction
    intro hr
    obtain ⟨f, hf, h1, _⟩ := hG.par e he hr
    have := (hG.wf.low f hf).1; omega
  obtain ⟨r0, hr0, hr1, hr2⟩ := hG.wf.rootE
  have HO := Lib.hid hone; have HR := Lib.hid hr0; have HP := Lib.hid hr2
  clear h hone hr0 hr2 hG
  generalize M.els = l at *
  generalize M.next = nx at *
  generalize M.root = rt at *
  subst hr1
  go_enter Tryz.func25, Tryz.ntmps25
  go_wp2_with fail
  go_loopg [10] l.length (fun gn v10 wj => ∃ i : Nat, Hid (gn + i = l.length ∧ i ≤ l.length) ∧ v10 = .int .i64 i ∧ w.grows wj ∧ Hid (∀ j f, j < i → l[j]? = some f → f.p ≠ -1))
  case atStart => exact ⟨0, Lib.hid ⟨by simp, Nat.zero_le _⟩, by go_num, (by repeat (with_reducible first | assumption | exact grA | apply grB | apply grC | apply grD | refine grE ?_ (by omega) _ | refine grF ?_ (by omega) _ _)), Lib.hid fun j f hj => by omega⟩
  case round =>
    obtain ⟨i, HQ, rfl, hgj, HN⟩ := hrel
    obtain ⟨j1, j2⟩ := HQ.out
    have hlt : i < l.length := by
      apply Classical.byContradiction
      intro hn
      obtain ⟨j, hj, he⟩ := List.mem_iff_getElem.1 HR.out
      exact HN.out j _ (by omega) (List.getElem?_eq_getElem hj) (by rw [he]; exact HP.out)
    have i1 : (i : Int) < (l.length : Int) := by omega
    rcases HG.out with h0 | ⟨p1, o1, rfl, e1⟩
    · rw [h0] at hlt; simp at hlt
    have hgt := List.getElem?_eq_getElem hlt
    have hone := Lib.hid (HO.out _ (List.getElem_mem hlt))
    obtain ⟨cs, l1, k1, ka, aa, kc, ac, rfl, _, _⟩ := e1 i _ hgt
    have k1 := k1.grows hgj
    have HST := Lib.hid (fun (hne : l[i].p ≠ -1) => (show ∀ j f, j < i + 1 → l[j]? = some f → f.p ≠ -1 from fun j f hj hf => by
      by_cases hji : j = i
      · subst hji; rw [hgt] at hf; cases hf; exact hne
      · exact HN.out j f (by omega) hf))
    generalize l[i] = x at *
    have z1 := lt_sz k1.lt
    obtain ⟨u1, u2⟩ := k1
    rw [l1] at u1 u2
    clear e1 HG hgt hx zx
    by_cases hp : x.p = -1
    · have hri := hone.out hp
      have hpb : (x.p == -1) = true := by simpa using hp
      go_wp2_with fail
      go_ret
      exact ⟨by first | rfl | (rw [hri]; rfl), (by repeat (with_reducible first | assumption | exact grA | apply grB | apply grC | apply grD | refine grE ?_ (by omega) _ | refine grF ?_ (by omega) _ _))⟩
    · have hst := Lib.hid (HST.out hp)
      have hpb : (x.p == -1) = false := by simpa using hp
      go_wp2_with fail
      go_roundg (l.length - (i + 1))
      case measure => omega
      case rel => exact ⟨i + 1, Lib.hid ⟨by omega, by omega⟩, by go_num, (by repeat (with_reducible first | assumption | exact grA | apply grB | apply grC | apply grD | refine grE ?_ (by omega) _ | refine grF ?_ (by omega) _ _)), hst⟩
end Go.Proofs.YtdbddnkjiehaiaaGreat

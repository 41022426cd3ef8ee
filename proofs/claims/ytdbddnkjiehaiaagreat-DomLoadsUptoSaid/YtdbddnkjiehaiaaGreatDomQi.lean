/- WALK over jalousieref8: Remove. No condition but that a row of elements stands in memory. -/
import Derived.Test.YtdbddnkjiehaiaaGreatDomQh
set_option linter.unusedSimpArgs false
set_option linter.unusedVariables false
namespace Go.Proofs.YtdbddnkjiehaiaaGreat
open Go.Maps Go.RowKit Go.Sort
theorem RefAt.cellP {w : World} {t : Nat} {Q : Nat → Prop} {g cap k : Nat} {M : Dm} {e : El} (h : RefAt w t Q (.slice (some ⟨g, 0, none⟩) M.els.length cap) M) (hk : M.els[k]? = some e) {cur : Array Value} (hr : w.row g = some (.cells cur 49)) : cur[k * 11 + 1]? = some (.int .i64 e.p) := by
  rcases els_get h.r.els |>.2 with h0 | ⟨g1, o1, hgo, e1⟩
  · rw [h0] at hk; simp at hk
  injection hgo with hgo
  injection hgo with hgo1 hgo2
  subst hgo1; subst hgo2
  obtain ⟨cs, q1, q2, q3⟩ := e1 k _ hk
  obtain ⟨ka2, aa2, kc2, ac2, rfl, _⟩ := q3
  rw [Nat.zero_add] at q2
  have c := q2.cell (j := 1) rfl
  rw [World.cell?_row, hr] at c
  exact c
theorem own_elt {w : World} {B g cap : Nat} {et : TypeId} {css : List (List Value)} (h : w.ownsRow B et 11 (.slice (some ⟨g, 0, none⟩) css.length cap) css.length css.flatten) (hl : ∀ c ∈ css, c.length = 11) {i : Nat} {cs : List Value} (hi : css[i]? = some cs) : eltAt w g (i * 11) cs := by
  have ho : OwnAt w B et 11 (fun (x : List Value) cs => cs = x) (.slice (some ⟨g, 0, none⟩) css.length cap) css := ⟨css, rfl, fun i x cs h1 h2 => by
    rw [h1] at h2; cases h2; exact ⟨hl _ (List.mem_of_getElem? h1), rfl⟩, h⟩
  obtain ⟨_, _, e1, _, _, h3⟩ := ho.slAt (S := fun _ => True) (by omega) fun _ _ => trivial
  injection e1 with e1
  subst e1
  rcases h3 with h3 | ⟨g1, o1, hgo, _, h4⟩
  · rw [h3] at hi; simp at hi
  injection hgo with hgo
  injection hgo with q1 q2
  subst q1; subst q2
  obtain ⟨cs', _, h5, rfl⟩ := h4 i cs hi
  rw [Nat.zero_add] at h5
  exact h5
theorem zip_keep {α β : Type} (p : α → Bool) : ∀ (l : List α) (m : List β), m.length = l.length → ((l.zip m).filter (fun q => p q.1)).map Prod.fst = l.filter p
  | [], [], _ => rfl
  | a :: l, b :: m, h => by
    simp only [List.zip_cons_cons, List.filter_cons]
    have := zip_keep p l m (by simpa using h)
    split <;> simp [this]
  | [], _ :: _, h => by simp at h
  | _ :: _, [], h => by simp at h

theorem stay_step {l : List Int} {j : Nat} {y : Int} (h : l[j]? = some y) (x : Int) : decide (x ∉ l.take (j + 1)) = (decide (x ∉ l.take j) && decide (y ≠ x)) := by
  rw [List.take_add_one, h]
  simp only [Option.toList_some, List.mem_append, List.mem_singleton, not_or, Bool.decide_and]
  congr 1
  exact decide_eq_decide.2 ⟨fun h e => h e.symm, fun h e => h e.symm⟩

set_option maxRecDepth 100000 in
set_option maxHeartbeats 8000000 in
theorem refRem_any (w : World) (t : Nat) (Q : Nat → Prop) (v : Value) (M : Dm) (h : RefAt w t Q v M) (hG : M.Good) (id : Int) :
    Calls Tryz.prog 36 #[.pointer (some ⟨t, 0, none⟩), .int .i64 id] w fun r w' => r = .returned (.int .i64 (M.rem id).1) ∧ REdt w t Q (M.rem id).2 w' := by
  have HAT := Lib.hid (fun (W : World) (hW : w.grows W) (id : Int) => refAt_any W t v M (h.r.grows hW) hG.wf.few id)
  have HR := Lib.hid h
  cases hat : M.at id with
  | none =>
    have hp : posE M.els id = -1 := posE_none (findE_none hat)
    have hbx : M.rem id = (5, M) := by unfold Dm.rem; rw [hat]
    rw [hbx]
    clear h hbx hG hat
    go_enter Tryz.func36, Tryz.ntmps36
    go_wp2_with (go_at_call 43; go_loud ((with_reducible refine (HAT.out _ (by repeat (with_reducible first | assumption | exact grA | apply grB | apply grC | apply grD | refine grE ?_ (by omega) _ | refine grF ?_ (by omega) _ _)) _).mono ?_); rw [hp]; rintro r w1 ⟨rfl, hg1⟩))
    go_ret
    exact ⟨rfl, REdt.no HR.out hg1⟩
  | some e =>
    obtain ⟨he, rfl⟩ := findE_some hat
    obtain ⟨k, hp, hkl, hke⟩ := posE_at hG.wf.up he
    obtain ⟨g, cap, rfl, hshp, hcap⟩ := ref_slice h hG
    have hfew := hG.wf.few
    have hkI : (k : Int) < (M.els.length : Int) := by omega
    have hgq := h.qv g rfl
    have htl := h.qlt t h.qt
    have hgl := h.qlt g hgq.1
    obtain ⟨cur, _, _, hrg, hcz, _⟩ := h.parts hke
    have hcp := h.cellP hke hrg
    have hkz : k * 11 + 11 ≤ cap * 11 := by have := Nat.mul_le_mul_right 11 (show k + 1 ≤ cap by omega); omega
    by_cases hr : e.id = M.root
    · have q : M.rem e.id = (1, M) := by unfold Dm.rem; rw [hat]; simp only; rw [if_pos hr]
      rw [q]
      obtain ⟨re, hre, hr1, hr2⟩ := hG.wf.rootE
      have hep : e.p = -1 := by rw [ids_inj hG.wf.up he hre (hr.trans hr1.symm)]; exact hr2
      rw [hep] at hcp
      clear h q hG hat hre hr1 hr2 hshp he hr
      go_enter Tryz.func36, Tryz.ntmps36
      go_upto_region 4 with (go_at_call 43; go_loud ((with_reducible refine (HAT.out _ (by repeat (with_reducible first | assumption | exact grA | apply grB | apply grC | apply grD | refine grE ?_ (by omega) _ | refine grF ?_ (by omega) _ _)) _).mono ?_); rw [hp]; rintro r w1 ⟨rfl, hg1⟩))
      have hr1 := (hg1.row_eq hgl).trans hrg
      have hx1 := (HR.out.grows hg1).head
      have zr1 := row_sz' hr1
      have zx1 := row_sz' hx1
      go_wp2_with fail
      go_ret
      exact ⟨rfl, REdt.no HR.out hg1⟩
    · obtain ⟨pe, hpe, hpid, hkin⟩ := hG.par e he hr
      obtain ⟨kp, hpp, hkpl, hkpe⟩ := posE_at hG.wf.up hpe
      rw [hpid] at hpp
      have hpI : (kp : Int) < (M.els.length : Int) := by omega
      have hpz : kp * 11 + 11 ≤ cap * 11 := by have := Nat.mul_le_mul_right 11 (show kp + 1 ≤ cap by omega); omega
      obtain ⟨cur', ka, kc, hrg', _, hcell, hks, qk⟩ := h.parts hkpe
      obtain rfl : cur' = cur := by rw [hrg] at hrg'; injection hrg' with hrg'; injection hrg' with hrg'; exact hrg'.symm
      have hlow := hG.wf.low pe hpe
      have hep : ¬ e.p = -1 := by rw [← hpid]; omega
      have hepb : (e.p == -1) = false := beq_eq_false_iff_ne.2 hep
      have q : M.rem e.id = (0, ⟨M.root, M.next, (updE M.els e.p (remE e.id)).filter fun f => decide (f.id ∉ M.below 32 e.id)⟩) := by unfold Dm.rem; rw [hat]; simp only; rw [if_neg hr]
      try rfl
      rw [q]
      obtain ⟨dep, d1, d2, d3⟩ := hG.wf.dep
      have hpos : 1 ≤ dep e.id := by have := d2 e he hr; omega
      have HB := Lib.hid (fun (W : World) (hW : w.grows W) => refBelow_any hG h.elWf 32 dep d2 d3 e he (by omega) W t _ (h.r.grows hW))
      have HKS := Lib.hid hks
      have HQK := Lib.hid qk
      have HUP := Lib.hid hG.wf.up
      have hpw := h.elWf pe hpe
      have HPW := Lib.hid hpw
      have hkl2 := hpw.2.2.2.2.2.2.2
      have HKI := Lib.hid (ints_get (IntsAt_own hks)).2
      have HBL := Lib.hid (show (M.below 32 e.id).length ≤ 256 by
        have h1 := nodup_len (m := M.els.map El.id) (Dm.below_once hG.wf d2 32 e he) fun x hx => by
          obtain ⟨f, hf, h1⟩ := (Dm.below_up hG.wf d2 32 e he x hx).1
          exact List.mem_map.2 ⟨f, hf, h1⟩
        simp at h1; omega)
      clear h q hG hat hshp he d1 d2 d3 hpos hks qk hpw hkin hrg' hpe
      generalize M.below 32 e.id = gone at *
      go_enter Tryz.func36, Tryz.ntmps36
      go_upto_region 4 with (go_at_call 43; go_loud ((with_reducible refine (HAT.out _ (by repeat (with_reducible first | assumption | exact grA | apply grB | apply grC | apply grD | refine grE ?_ (by omega) _ | refine grF ?_ (by omega) _ _)) _).mono ?_); rw [hp]; rintro r w1 ⟨rfl, hg1⟩))
      have hr1 := (hg1.row_eq hgl).trans hrg
      have hx1 := (HR.out.grows hg1).head
      have zr1 := row_sz' hr1
      have zx1 := row_sz' hx1
      go_upto_region 7 with (go_at_call 50; go_loud ((with_reducible refine (HB.out _ hg1).mono ?_); rintro r w2 ⟨vg, rfl, hg2, hvg⟩))
      have hg12 := hg1.trans hg2
      have hr2 := (hg12.row_eq hgl).trans hrg
      have hx2 := (HR.out.grows hg12).head
      have zr2 := row_sz' hr2
      have zx2 := row_sz' hx2
      clear hr1 hx1 zr1 zx1
      go_upto_region 9 with (go_at_call 43; go_loud ((with_reducible refine (HAT.out _ hg12 _).mono ?_); rw [hpp]; rintro r w3 ⟨rfl, hg3⟩))
      have hg13 := hg12.trans hg3
      have hr3 := (hg13.row_eq hgl).trans hrg
      have hx3 := (HR.out.grows hg13).head
      have zr3 := row_sz' hr3
      have zx3 := row_sz' hx3
      clear hr2 hx2 zr2 zx2
      go_upto_region 10 with fail
      go_loopg [8, 53] pe.ks.length (fun gn v8 v53 wj => ∃ (i : Nat) (ll : List Int), Hid (gn + i = pe.ks.length ∧ i ≤ pe.ks.length) ∧ Hid (ll = (pe.ks.take i).filter fun x => decide (x ≠ e.id)) ∧ v53 = .int .i64 i ∧ w3.grows wj ∧ Hid (wj.ownsRow w3.heap.size 3 1 v8 ll.length (ll.map (Value.int .i64))))
      case atStart => exact ⟨0, [], Lib.hid ⟨by simp, Nat.zero_le _⟩, Lib.hid rfl, by go_num, World.grows.refl, Lib.hid (World.ownsRow_nil _ _ _ _)⟩
      case round =>
        obtain ⟨i, ll, HQ, HLL, rfl, hgj, HV⟩ := hrel
        obtain ⟨j1, j2⟩ := HQ.out
        by_cases hlt : i < pe.ks.length
        · have i1 : (i : Int) < (pe.ks.length : Int) := by omega
          rcases HKI.out with h0 | ⟨p3, o3, rfl, e3⟩
          · rw [h0] at hlt; simp at hlt
          have hgt := List.getElem?_eq_getElem hlt
          have k3 := (e3 i _ hgt).grows (hg13.trans hgj)
          have hlen : ll.length ≤ 256 := by rw [HLL.out]; exact Nat.le_trans (List.length_filter_le _ _) (by rw [List.length_take]; omega)
          have HTK := Lib.hid (show (if pe.ks[i] = e.id then ll else ll ++ [pe.ks[i]]) = (pe.ks.take (i + 1)).filter (fun x => decide (x ≠ e.id)) by
            rw [List.take_add_one, hgt, List.filter_append, ← HLL.out]
            by_cases hx : pe.ks[i] = e.id <;> simp [hx])
          generalize pe.ks[i] = x at *
          have c3 := k3.cell (j := 0) rfl
          rw [World.cell?_row, Nat.add_zero, Nat.mul_one] at c3
          have z3 := lt_sz k3.lt
          obtain ⟨a6, c6, rfl⟩ := own_slice HV.out
          have hvo := HV.out
          have s03 := hgj.below.size
          clear e3 hgt HV hr3 hx3 zr3 zx3 HLL k3
          by_cases hx : x = e.id
          · rw [if_pos hx] at HTK
            have hxb : (x == e.id) = true := by simpa using hx
            have HVO := Lib.hid hvo
            clear hvo
            go_wp2_with fail
            go_roundg (pe.ks.length - (i + 1))
            case measure => omega
            case rel => exact ⟨i + 1, ll, Lib.hid ⟨by omega, by omega⟩, HTK, by go_num, (by repeat (with_reducible first | assumption | exact grA | apply grB | apply grC | apply grD | refine grE ?_ (by omega) _ | refine grF ?_ (by omega) _ _)), Lib.hid (HVO.out.grows (by repeat (with_reducible first | assumption | exact grA | apply grB | apply grC | apply grD | refine grE ?_ (by omega) _ | refine grF ?_ (by omega) _ _)))⟩
          · rw [if_neg hx] at HTK
            have hxb : (x == e.id) = false := by simpa using hx
            go_wp2_with (at_builtin; refine wpList_app w3 (w3.heap.size) rfl (.tmp 60) (.tmp 62) _ rfl 3 (.int .i64 0) 1 8 Tryz.underlying46 (by kernel_rfl) rfl (by omega) (by omega) _ ll.length _ rfl (hvo.grows (by repeat (with_reducible first | assumption | exact grA | apply grB | apply grC | apply grD | refine grE ?_ (by omega) _ | refine grF ?_ (by omega) _ _))) _ 1 _ [.int .i64 x] rfl rfl (cells_of_row (e := 3) (fr := (0, 0)) (by simp [go_sem])) (by simp [Value.oneCell']) (by omega) (by repeat (with_reducible first | assumption | exact grA | apply grB | apply grC | apply grD | refine grE ?_ (by omega) _ | refine grF ?_ (by omega) _ _)) (by omega) (by simp <;> omega) ?_; intro v' w' hg' HO' HR' HG' HA')
            have HN := Lib.hid HO'.out
            rw [show ll.map (Value.int .i64) ++ [.int .i64 x] = (ll ++ [x]).map (Value.int .i64) by simp, show ll.length + 1 = (ll ++ [x]).length by simp] at HN
            clear HO' HR' HG' HA'
            go_roundg (pe.ks.length - (i + 1))
            case measure => omega
            case rel => exact ⟨i + 1, ll ++ [x], Lib.hid ⟨by omega, by omega⟩, HTK, by go_num, hg', HN⟩
        · have i1 : ¬ (i : Int) < (pe.ks.length : Int) := by omega
          obtain rfl : i = pe.ks.length := by omega
          have HLE := Lib.hid (show ll = (remE e.id pe).ks by
            have := HLL.out
            rw [List.take_length] at this
            exact this)
          have hgw := hg13.trans hgj
          have hrw := (hgw.row_eq hgl).trans hrg
          have hRW := HR.out.grows hgw
          have hxw := hRW.head
          have zrw := row_sz' hrw
          have zxw := row_sz' hxw
          obtain ⟨a8, c8, rfl⟩ := own_slice HV.out
          have hvo := HV.out
          have s03 := hgj.below.size
          have s13 := hg13.below.size
          clear HV HLL hr3 hx3 zr3 zx3
          go_upto_region 16 with fail
          have hMI : Mvd Q w (wr.setCell ⟨g, kp * 11 + 3, none⟩ (.slice a8 ll.length c8)) := ((Mvd.refl Q w).grow hgw).cell _ _ _ (.inl hgq.1)
          have hsI : (wr.setCell ⟨g, kp * 11 + 3, none⟩ (.slice a8 ll.length c8)).heap.size = wr.heap.size := World.setCell_size' _ _ _
          have hRI : RefAt (wr.setCell ⟨g, kp * 11 + 3, none⟩ (.slice a8 ll.length c8)) t (fun b => Q b ∨ w.heap.size ≤ b ∧ b < wr.heap.size) (.slice (some ⟨g, 0, none⟩) M.els.length cap) ⟨M.root, M.next, updE M.els e.p (remE e.id)⟩ := by
            rw [← hpid]
            refine RefAt.one (w := wr) (W := wr.setCell ⟨g, kp * 11 + 3, none⟩ (.slice a8 ll.length c8)) (Q := Q) (Q' := fun b => Q b ∨ w.heap.size ≤ b ∧ b < wr.heap.size) hRW HUP.out hkpe (remE e.id) (j := 3) (vs := [.slice a8 ll.length c8]) (by simp) rfl (fun b hb hne => by rw [World.row_setCell, if_neg hne]) (fun b hb => .inl hb) (fun b hb => ?_) (fun cs hx => ?_) ?_
            · rw [hsI]
              rcases hb with hb | hb
              · exact hRW.qlt b hb
              · exact hb.2
            · have hle := HLE.out
              subst hle
              obtain ⟨ka2, aa2, kc2, ac2, rfl, _, ha, _, z2⟩ := hx
              refine ⟨a8, aa2, c8, ac2, rfl, World.ownsRow.mono_base (Nat.zero_le _) (ownsRow_row hvo fun b hb => by rw [World.row_setCell, if_neg (by have := (hvo.lt b hb).1; omega)]), ownsRow_row ha fun b hb => by rw [World.row_setCell, if_neg (z2 b hb).2.2], fun b hb => ?_, fun b hb => ⟨.inl (z2 b hb).1, (z2 b hb).2⟩⟩
              have := hvo.lt b hb
              exact ⟨.inr ⟨by omega, by omega⟩, by omega, by omega⟩
            · have hw := HPW.out
              exact ⟨hw.1, hw.2.1, hw.2.2.1, fun x hx => hw.2.2.2.1 x (List.mem_filter.1 hx).1, hw.2.2.2.2.1, hw.2.2.2.2.2.1, hw.2.2.2.2.2.2.1, Nat.le_trans (List.length_filter_le _ _) hkl2⟩
          have hvgr := hvg.grows (hg3.trans hgj)
          obtain ⟨ag, cg, rfl⟩ := own_slice hvg
          have hsv := hg1.below.size
          have hvgI : (wr.setCell ⟨g, kp * 11 + 3, none⟩ (.slice a8 ll.length c8)).ownsRow w1.heap.size 3 1 (.slice ag gone.length cg) gone.length (gone.map (Value.int .i64)) := ownsRow_row hvgr fun b hb => by rw [World.row_setCell, if_neg (by have := (hvgr.lt b hb).1; omega)]
          have hIdl : (updE M.els e.p (remE e.id)).length = M.els.length := by unfold updE; simp
          clear hvg hvgr hrw hRW hxw zrw zxw hvo HKS HQK HPW HKI HAT HB hgj hgw
          generalize wr.setCell ⟨g, kp * 11 + 3, none⟩ (.slice a8 ll.length c8) = wI at *
          have hsIw : w.heap.size ≤ wI.heap.size := by omega
          have hRI2 : RefAt wI t (fun b => Q b ∨ w.heap.size ≤ b ∧ b < wI.heap.size) (.slice (some ⟨g, 0, none⟩) M.els.length cap) ⟨M.root, M.next, updE M.els e.p (remE e.id)⟩ := by rw [hsI]; exact hRI
          clear hRI hsI
          generalize hE2 : updE M.els e.p (remE e.id) = els2 at *
          obtain ⟨css, l1, l2, l3⟩ := hRI2.els
          have l1' : css.length = els2.length := l1
          have hcl : ∀ c ∈ css, c.length = 11 := fun c hc => by
            obtain ⟨i, hi, rfl⟩ := List.mem_iff_getElem.1 hc
            exact (l2 i els2[i] _ (List.getElem?_eq_getElem (by omega)) (List.getElem?_eq_getElem hi)).1
          have l3' : wI.ownsRow 0 49 11 (.slice (some ⟨g, 0, none⟩) css.length cap) css.length css.flatten := by
            have h3 : wI.ownsRow 0 49 11 (.slice (some ⟨g, 0, none⟩) M.els.length cap) els2.length css.flatten := l3
            rw [← l1', ← hIdl, ← l1'] at h3
            exact h3
          have HEL := Lib.hid (fun (i : Nat) (cs : List Value) (hi : css[i]? = some cs) => own_elt l3' hcl hi)
          have hxI := hRI2.head
          have zxI := row_sz' hxI
          have HRI := Lib.hid hRI2
          have HMI := Lib.hid hMI
          have L2 := Lib.hid l2
          have HGI := Lib.hid (ints_get (IntsAt_own hvgI)).2
          have htI : t < wI.heap.size := hRI2.qlt t hRI2.qt
          have hgI : g < wI.heap.size := hRI2.qlt g (.inl hgq.1)
          clear hRI2 hMI l2 l3 l3' hcl hvgI l1
          have hfl : els2.length ≤ 256 := by omega
          have hlI : (M.els.length : Int) = (els2.length : Int) := by omega
          have hbl := HBL.out
          go_upto_region 18 with fail
          go_loopg [11, 78] els2.length (fun gn v11 v78 wj => ∃ (i : Nat) (kept : List (El × List Value)), Hid (gn + i = els2.length ∧ i ≤ els2.length) ∧ Hid (kept = ((els2.zip css).take i).filter fun p => decide (p.1.id ∉ gone)) ∧ v78 = .int .i64 i ∧ wI.grows wj ∧ Hid (wj.ownsRow wI.heap.size 49 11 v11 kept.length (kept.map Prod.snd).flatten))
          case atStart => exact ⟨0, [], Lib.hid ⟨by simp, Nat.zero_le _⟩, Lib.hid rfl, by go_num, World.grows.refl, Lib.hid (World.ownsRow_nil _ _ _ _)⟩
          case round =>
            obtain ⟨i, kept, HQ, HK, rfl, hgj, HV⟩ := hrel
            obtain ⟨j1, j2⟩ := HQ.out
            by_cases hlt : i < els2.length
            · have i1 : (i : Int) < (els2.length : Int) := by omega
              have hgt := List.getElem?_eq_getElem hlt
              have hgc : css[i]? = some css[i] := List.getElem?_eq_getElem (by omega)
              have k3 := (HEL.out i _ hgc).grows hgj
              obtain ⟨_, ka, aa, kc, ac, ecs, _⟩ := L2.out i _ _ hgt hgc
              have hlen : kept.length ≤ 256 := by rw [HK.out]; exact Nat.le_trans (List.length_filter_le _ _) (by rw [List.length_take, List.length_zip]; omega)
              have HTK := Lib.hid (show (if els2[i].id ∈ gone then kept else kept ++ [(els2[i], css[i])]) = ((els2.zip css).take (i + 1)).filter (fun p => decide (p.1.id ∉ gone)) by
                have hz : (els2.zip css)[i]? = some (els2[i], css[i]) := by rw [List.getElem?_zip_eq_some]; exact ⟨hgt, hgc⟩
                rw [List.take_add_one, hz, List.filter_append, ← HK.out]
                by_cases hx : els2[i].id ∈ gone <;> simp [hx])
              rw [ecs] at k3 HTK
              generalize els2[i] = x at *
              have z3 := lt_sz k3.lt
              obtain ⟨u1, u2⟩ := k3
              rw [show (elO x ka aa kc ac).length = 11 from rfl] at u1 u2
              unfold elO at u2
              obtain ⟨a6, c6, rfl⟩ := own_slice HV.out
              have hvo := HV.out
              have s03 := hgj.below.size
              clear HV HK ecs hgc hgt
              have i2 : (i : Int) < (M.els.length : Int) := by omega
              go_upto_region 22 with fail
              have hgA : wI.grows (wr.alloc (.cells #[.int .i64 x.id, .int .i64 x.p, .string x.tag, .slice ka x.ks.length kc, .slice aa x.at'.length ac, .int .i64 x.bx.ty, .string x.bx.nm, .int .i64 x.bx.a, .int .i64 x.bx.b, .int .i64 x.bx.c, .int .i64 x.bx.d] 49)) := hgj.trans (World.grows.alloc World.grows.refl _)
              have hnA : (wr.alloc (.cells #[.int .i64 x.id, .int .i64 x.p, .string x.tag, .slice ka x.ks.length kc, .slice aa x.at'.length ac, .int .i64 x.bx.ty, .string x.bx.nm, .int .i64 x.bx.a, .int .i64 x.bx.b, .int .i64 x.bx.c, .int .i64 x.bx.d] 49)).row wr.heap.size = some (.cells #[.int .i64 x.id, .int .i64 x.p, .string x.tag, .slice ka x.ks.length kc, .slice aa x.at'.length ac, .int .i64 x.bx.ty, .string x.bx.nm, .int .i64 x.bx.a, .int .i64 x.bx.b, .int .i64 x.bx.c, .int .i64 x.bx.d] 49) := by simp [go_sem]
              have hsA : (wr.alloc (.cells #[.int .i64 x.id, .int .i64 x.p, .string x.tag, .slice ka x.ks.length kc, .slice aa x.at'.length ac, .int .i64 x.bx.ty, .string x.bx.nm, .int .i64 x.bx.a, .int .i64 x.bx.b, .int .i64 x.bx.c, .int .i64 x.bx.d] 49)).heap.size = wr.heap.size + 1 := by simp
              have hvA : (wr.alloc (.cells #[.int .i64 x.id, .int .i64 x.p, .string x.tag, .slice ka x.ks.length kc, .slice aa x.at'.length ac, .int .i64 x.bx.ty, .string x.bx.nm, .int .i64 x.bx.a, .int .i64 x.bx.b, .int .i64 x.bx.c, .int .i64 x.bx.d] 49)).ownsRow wI.heap.size 49 11 (.slice a6 kept.length c6) kept.length (kept.map Prod.snd).flatten := hvo.grows (World.grows.alloc World.grows.refl _)
              clear hvo u1 u2
              generalize (wr.alloc (.cells #[.int .i64 x.id, .int .i64 x.p, .string x.tag, .slice ka x.ks.length kc, .slice aa x.at'.length ac, .int .i64 x.bx.ty, .string x.bx.nm, .int .i64 x.bx.a, .int .i64 x.bx.b, .int .i64 x.bx.c, .int .i64 x.bx.d] 49)) = wA at *
              have zA := row_sz' hnA
              clear hgj z3
              generalize wr.heap.size = n0 at *
              go_loopg [14, 84] gone.length (fun gn v14 v84 wk => ∃ j : Nat, Hid (gn + j = gone.length ∧ j ≤ gone.length) ∧ v84 = .int .i64 j ∧ v14 = .bool (decide (x.id ∉ gone.take j)) ∧ wA.grows wk)
              case atStart => exact ⟨0, Lib.hid ⟨by simp, Nat.zero_le _⟩, by go_num, by simp, World.grows.refl⟩
              case round =>
                obtain ⟨j, HQ2, rfl, rfl, hgk⟩ := hrel
                obtain ⟨m1, m2⟩ := HQ2.out
                have hnk := (hgk.row_eq zA.1).trans hnA
                have zk := row_sz' hnk
                have hgk2 := hgA.trans hgk
                by_cases hj : j < gone.length
                · have jI : (j : Int) < (gone.length : Int) := by omega
                  rcases HGI.out with h0 | ⟨p3, o3, rfl, e3⟩
                  · rw [h0] at hj; simp at hj
                  have hgt := List.getElem?_eq_getElem hj
                  have k3 := (e3 j _ hgt).grows (hgA.trans hgk)
                  have HT := Lib.hid (stay_step hgt x.id)
                  generalize gone[j] = y at *
                  generalize decide (x.id ∉ gone.take j) = b at *
                  have c3 := k3.cell (j := 0) rfl
                  rw [World.cell?_row, Nat.add_zero, Nat.mul_one] at c3
                  have z3 := lt_sz k3.lt
                  clear e3 hgt k3
                  by_cases hy : y = x.id
                  · have hyb : (y == x.id) = true := by simpa using hy
                    cases b
                    all_goals
                      (go_wp2_with fail
                       go_roundg (gone.length - (j + 1))
                       case measure => omega
                       case rel => exact ⟨j + 1, Lib.hid ⟨by omega, by omega⟩, by go_num, by rw [HT.out]; simp [hy], (by repeat (with_reducible first | assumption | exact grA | apply grB | apply grC | apply grD | refine grE ?_ (by omega) _ | refine grF ?_ (by omega) _ _))⟩)
                  · have hyb : (y == x.id) = false := by simpa using hy
                    cases b
                    all_goals
                      (go_wp2_with fail
                       go_roundg (gone.length - (j + 1))
                       case measure => omega
                       case rel => exact ⟨j + 1, Lib.hid ⟨by omega, by omega⟩, by go_num, by rw [HT.out]; simp [hy], (by repeat (with_reducible first | assumption | exact grA | apply grB | apply grC | apply grD | refine grE ?_ (by omega) _ | refine grF ?_ (by omega) _ _))⟩)
                · have jI : ¬ (j : Int) < (gone.length : Int) := by omega
                  obtain rfl : j = gone.length := by omega
                  have hvK := hvA.grows hgk
                  by_cases hin : x.id ∈ gone
                  · have hb : decide (x.id ∉ gone.take gone.length) = false := by rw [List.take_length]; simp [hin]
                    rw [if_pos hin] at HTK
                    generalize decide (x.id ∉ gone.take gone.length) = b at *
                    subst hb
                    go_wp2_with fail
                    go_roundg (els2.length - (i + 1))
                    case measure => omega
                    case rel => exact ⟨i + 1, kept, Lib.hid ⟨by omega, by omega⟩, HTK, by go_num, (by repeat (with_reducible first | assumption | exact grA | apply grB | apply grC | apply grD | refine grE ?_ (by omega) _ | refine grF ?_ (by omega) _ _)), Lib.hid (hvK.grows (by repeat (with_reducible first | assumption | exact grA | apply grB | apply grC | apply grD | refine grE ?_ (by omega) _ | refine grF ?_ (by omega) _ _)))⟩
                  · have hb : decide (x.id ∉ gone.take gone.length) = true := by rw [List.take_length]; simp [hin]
                    rw [if_neg hin] at HTK
                    generalize decide (x.id ∉ gone.take gone.length) = b at *
                    subst hb
                    have s04 := hgk2.below.size
                    go_wp2_with (at_builtin; refine wpList_app wI (wI.heap.size) rfl (.tmp 97) (.tmp 99) _ rfl 49 (.agg #[.int .i64 0, .int .i64 0, .string ByteArray.empty, .slice none 0 0, .slice none 0 0, .int .i64 0, .string ByteArray.empty, .int .i64 0, .int .i64 0, .int .i64 0, .int .i64 0]) 11 136 Tryz.underlying22 (by kernel_rfl) rfl (by omega) (by omega) _ kept.length _ rfl (hvK.grows (by repeat (with_reducible first | assumption | exact grA | apply grB | apply grC | apply grD | refine grE ?_ (by omega) _ | refine grF ?_ (by omega) _ _))) _ 1 _ [.int .i64 x.id, .int .i64 x.p, .string x.tag, .slice ka x.ks.length kc, .slice aa x.at'.length ac, .int .i64 x.bx.ty, .string x.bx.nm, .int .i64 x.bx.a, .int .i64 x.bx.b, .int .i64 x.bx.c, .int .i64 x.bx.d] rfl rfl (cells_of_row (e := 49) (fr := (0, 0)) (by simp [go_sem])) (by simp [Value.oneCell']) (by omega) (by repeat (with_reducible first | assumption | exact grA | apply grB | apply grC | apply grD | refine grE ?_ (by omega) _ | refine grF ?_ (by omega) _ _)) (by omega) (by simp <;> omega) ?_; intro v' w' hg' HO' HR' HG' HA')
                    have HN := Lib.hid HO'.out
                    rw [show (kept.map Prod.snd).flatten ++ [.int .i64 x.id, .int .i64 x.p, .string x.tag, .slice ka x.ks.length kc, .slice aa x.at'.length ac, .int .i64 x.bx.ty, .string x.bx.nm, .int .i64 x.bx.a, .int .i64 x.bx.b, .int .i64 x.bx.c, .int .i64 x.bx.d] = ((kept ++ [(x, elO x ka aa kc ac)]).map Prod.snd).flatten by simp, show kept.length + 1 = (kept ++ [(x, elO x ka aa kc ac)]).length by simp] at HN
                    clear HO' HR' HG' HA'
                    go_roundg (els2.length - (i + 1))
                    case measure => omega
                    case rel => exact ⟨i + 1, kept ++ [(x, elO x ka aa kc ac)], Lib.hid ⟨by omega, by omega⟩, HTK, by go_num, hg', HN⟩
            · have i1 : ¬ (i : Int) < (els2.length : Int) := by omega
              have i2 : ¬ (i : Int) < (M.els.length : Int) := by omega
              obtain rfl : i = els2.length := by omega
              have HKE := Lib.hid (show kept = (els2.zip css).filter fun p => decide (p.1.id ∉ gone) by
                rw [HK.out, List.take_of_length_le (by rw [List.length_zip]; omega)])
              have hxw := (hgj.row_eq htI).trans hxI
              have zxw := row_sz' hxw
              obtain ⟨a6, c6, rfl⟩ := own_slice HV.out
              have HVO := Lib.hid HV.out
              have s03 := hgj.below.size
              clear HV HK
              go_wp2_with fail
              go_ret
              have hW0 : (wr.setCell ⟨t, 0, none⟩ (.slice a6 kept.length c6)).row t = some (.cells #[.slice a6 kept.length c6, .int .i64 M.next] 58) := by rw [World.row_setCell, if_pos rfl, hxw]; rfl
              have hsW : (wr.setCell ⟨t, 0, none⟩ (.slice a6 kept.length c6)).heap.size = wr.heap.size := World.setCell_size' _ _ _
              have hrW : ∀ b, b < wI.heap.size → b ≠ t → (wr.setCell ⟨t, 0, none⟩ (.slice a6 kept.length c6)).row b = wI.row b := fun b hb h1 => by
                rw [World.row_setCell, if_neg h1]
                exact hgj.row_eq hb
              have hMW : Mvd Q w (wr.setCell ⟨t, 0, none⟩ (.slice a6 kept.length c6)) := (HMI.out.grow hgj).cell _ _ _ (.inl HR.out.qt)
              have hoW : (wr.setCell ⟨t, 0, none⟩ (.slice a6 kept.length c6)).ownsRow 0 49 11 (.slice a6 kept.length c6) kept.length (kept.map Prod.snd).flatten := World.ownsRow.mono_base (Nat.zero_le _) (ownsRow_row HVO.out fun b hb => by rw [World.row_setCell, if_neg (by have := (HVO.out.lt b hb).1; omega)])
              have hl : kept.map Prod.fst = els2.filter fun f => decide (f.id ∉ gone) := by rw [HKE.out]; exact zip_keep (fun f => decide (f.id ∉ gone)) els2 css l1'
              refine ⟨rfl, ?_⟩
              rw [show els2.filter (fun f => !decide (f.id ∈ gone)) = els2.filter (fun f => decide (f.id ∉ gone)) by simp, ← hl]
              have hll : (kept.map Prod.fst).length = kept.length := by simp
              rw [← hll] at hoW hW0 hMW hrW hsW
              rw [← hll]
              generalize wr.setCell ⟨t, 0, none⟩ (.slice a6 (kept.map Prod.fst).length c6) = W at *
              refine ⟨fun b => Q b ∨ w.heap.size ≤ b ∧ b < W.heap.size, .slice a6 (kept.map Prod.fst).length c6, hMW.chg, ?_⟩
              have hmem : ∀ (i : Nat) (p : El × List Value), kept[i]? = some p → ∃ j, els2[j]? = some p.1 ∧ css[j]? = some p.2 := fun i p hp => by
                have h1 := List.mem_of_getElem? hp
                rw [HKE.out] at h1
                obtain ⟨j, hj⟩ := List.getElem?_of_mem (List.mem_filter.1 h1).1
                exact ⟨j, List.getElem?_zip_eq_some.1 hj⟩
              refine RefAt.anew (M := ⟨M.root, M.next, els2⟩) (Q' := fun b => Q b ∨ w.heap.size ≤ b ∧ b < W.heap.size) (css := kept.map Prod.snd) HRI.out (by simp) (fun i x cs z1 z2 => ?_) hoW (fun x hx => ?_) ?_ (fun b hb h1 h2 => hrW b (HRI.out.qlt b hb) h1) hW0 (fun b hb => ?_) (fun b h1 h2 => .inr ⟨by omega, h2⟩) (fun b hb => ?_)
              · rw [List.getElem?_map] at z1 z2
                cases hp : kept[i]? with
                | none => rw [hp] at z1; cases z1
                | some p =>
                  rw [hp] at z1 z2
                  cases z1; cases z2
                  obtain ⟨j, q1, q2⟩ := hmem i p hp
                  exact L2.out j _ _ q1 q2
              · obtain ⟨p, hp, rfl⟩ := List.mem_map.1 hx
                obtain ⟨i, hi⟩ := List.getElem?_of_mem hp
                obtain ⟨j, q1, _⟩ := hmem i p hi
                exact HRI.out.elWf _ (List.mem_of_getElem? q1)
              · exact .inr fun nb hb => (HVO.out.lt nb (by rw [hll] at hb; exact hb)).1
              · rcases hb with hb | hb
                · exact .inl hb
                · exact .inr ⟨hb.1, by omega⟩
              · rcases hb with hb | hb
                · have := HR.out.qlt b hb; omega
                · exact hb.2
end Go.Proofs.YtdbddnkjiehaiaaGreat

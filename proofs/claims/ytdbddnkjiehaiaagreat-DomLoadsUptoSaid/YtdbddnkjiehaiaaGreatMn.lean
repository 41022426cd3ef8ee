/- Texts of the walk, one after the other; what each proves stands ahead of it. -/
import Derived.Test.YtdbddnkjiehaiaaGreatDomCp
import Derived.Test.YtdbddnkjiehaiaaGreatMm
set_option linter.unusedSimpArgs false
set_option linter.unusedVariables false
/- MEMORY: a map from whole numbers to whole numbers, told as a function. No condition. -/
namespace Go.Proofs.YtdbddnkjiehaiaaGreat
open Go.Maps Go.RowKit Go.Sort
def zI : DataW Value := .held (.int .i64 0)
/-- at block b stands a map of n numbers: f -/
structure MpI (w : World) (b n : Nat) (f : Int → Option Int) (D : DataW Value) : Prop where
  own : w.ownsMap Tryz.prog 3 heldP b n D
  at' : ∀ i, D.atKey (.int .i64 i) zI = .held (.int .i64 ((f i).getD 0))
  has : ∀ i, Maps.has D (.int .i64 i) = (f i).isSome
  sz : Maps.size D = n
theorem zero_int (w : World) : (zeroValue 3).run Tryz.prog w = .ok (.int .i64 0) w := Tryz.zeroValue3 w
theorem MpI.look {w : World} {b n : Nat} {f : Int → Option Int} {D : DataW Value} (h : MpI w b n f D) (i : Int) (hi : I64 i) : (Instr.lookup 72 (.map (some b)) (.int .i64 i) false).run Tryz.prog w = .ok (.int .i64 ((f i).getD 0)) w := by
  obtain ⟨v, ps, hrun, hv⟩ := h.own.lookup (int_keyed Tryz.underlying3) Tryz.underlying72 (zero_int w) (zd := zI) (zp := []) rfl (keyOf_int_mk Tryz.underlying3 (lit_wf hi))
  rw [h.at'] at hv
  unfold heldP at hv
  simp only [Option.some.injEq, Prod.mk.injEq, DataW.held.injEq] at hv
  rw [hrun, hv.1]
theorem MpI.look_ok {w : World} {b n : Nat} {f : Int → Option Int} {D : DataW Value} (h : MpI w b n f D) (i : Int) (hi : I64 i) : (Instr.lookup 72 (.map (some b)) (.int .i64 i) true).run Tryz.prog w = .ok (.tuple #[.int .i64 ((f i).getD 0), .bool (f i).isSome]) w := by
  obtain ⟨v, ps, hrun, hv⟩ := h.own.look_ok (int_keyed Tryz.underlying3) Tryz.underlying72 (zero_int w) (zd := zI) (zp := []) rfl (keyOf_int_mk Tryz.underlying3 (lit_wf hi))
  rw [h.at'] at hv
  unfold heldP at hv
  simp only [Option.some.injEq, Prod.mk.injEq, DataW.held.injEq] at hv
  rw [hrun, hv.1, h.has]
theorem MpI.row {w W : World} {b n : Nat} {f : Int → Option Int} {D : DataW Value} (h : MpI w b n f D) (hr : W.row b = w.row b) : MpI W b n f D := ⟨ownsMap_row h.own hr, h.at', h.has, h.sz⟩
theorem MpI.grows {w W : World} {b n : Nat} {f : Int → Option Int} {D : DataW Value} (h : MpI w b n f D) (hg : w.grows W) : MpI W b n f D := h.row (hg.row_eq h.own.lt)
theorem MpI.len {w : World} {b n : Nat} {f : Int → Option Int} {D : DataW Value} (h : MpI w b n f D) : (Builtin.len_ #[72] 3 #[.map (some b)]).run Tryz.prog w = .ok (.int .i64 n) w := by
  have := h.own.len Tryz.underlying72 3
  rw [h.sz] at this; exact this
theorem MpI.made (w : World) : MpI (w.alloc (Obj.map #[] 0)) w.heap.size 0 (fun _ => none) (.map []) := ⟨World.ownsMap_made w _ _ _, fun _ => rfl, fun _ => rfl, rfl⟩
theorem MpI.put {w W : World} {b n : Nat} {f : Int → Option Int} {D : DataW Value} (h : MpI w b n f D) {i v : Int} (hi : f i = none) (ho : W.ownsMap Tryz.prog 3 heldP b (n + 1) (D.put (.int .i64 i) (.held (.int .i64 v)))) : MpI W b (n + 1) (fun x => if x = i then some v else f x) (D.put (.int .i64 i) (.held (.int .i64 v))) := by
  refine ⟨ho, fun x => ?_, fun x => ?_, ?_⟩
  · by_cases hx : x = i
    · subst hx
      rw [atKey_put_same (h.own.tidy (int_keyed Tryz.underlying3)).isMap (by first | exact trivial | exact .inl ⟨_, rfl⟩ | simp [WideAt.IsKeyLit]), if_pos rfl]; rfl
    · rw [atKey_put_other (fun y => hx (by injection y)), h.at', if_neg hx]
  · by_cases hx : x = i
    · subst hx
      rw [has_put_same (h.own.tidy (int_keyed Tryz.underlying3)).isMap (by first | exact trivial | exact .inl ⟨_, rfl⟩ | simp [WideAt.IsKeyLit]), if_pos rfl]; rfl
    · rw [has_put_other (fun y => hx (by injection y)), h.has, if_neg hx]
  · rw [size_put (h.own.tidy (int_keyed Tryz.underlying3)), h.has, hi, h.sz]; rfl
end Go.Proofs.YtdbddnkjiehaiaaGreat

/- WALK over dom: joined of a tree's elements. No condition but that a tree stands in memory. -/
namespace Go.Proofs.YtdbddnkjiehaiaaGreat
open Go.Maps Go.RowKit Go.Sort

set_option maxRecDepth 100000 in
set_option maxHeartbeats 40000000 in
theorem domJoined_any (w0 w : World) (L : Ly) (M : Dm) (h0 : w0.grows w) (h : TreeAt w L M) (hG : M.Good) (ht0 : w0.heap.size ≤ L.t) : Calls Tryz.prog 12 #[.pointer (some ⟨L.t, 0, none⟩)] w fun r w' => r = .returned (.bool true) ∧ w0.grows w' ∧ TreeAt w' L M := by
  have hx := h.head
  have zx := row_sz' hx
  obtain ⟨c, D, hcn, hown, hmp, hhas, hsz⟩ := h.map
  have HO := Lib.hid hown; have HMP := Lib.hid hmp; have HH := Lib.hid hhas
  have HLT := Lib.hid (fun k (hk : L.own M.els k) => h.lt hk)
  have HT := Lib.hid h; have HG := Lib.hid hG
  have hmk := fun (W : World) => run_makeMap (P := Tryz.prog) 72 W
  have hfew := hG.wf.few
  have HORD := Lib.hid hG.order_len
  have s0 := h0.below.size
  clear h hown hmp hhas hsz hG
  go_enter Tryz.func12, Tryz.ntmps12
  go_wp2_with (at_range; go_loud (refine wpList_range_own _ rfl _ 43 rfl 3 52 (int_keyed Tryz.underlying3) Tryz.underlying43 heldP L.mb c D rfl HO.out ?_); intro w2 hrg2 hg2 hs2)
  go_frame
  have hgw2 : w0.grows w2 := World.grows.grown h0 hg2 (fun _ h => nomatch h)
  have r2 : ∀ k, k < w.heap.size → w2.row k = w.row k := fun k hk => World.row_grow hg2 hk (fun h => nomatch h)
  have HT2 := Lib.hid (HT.out.keep (W := w2) fun k _ hl => r2 k hl)
  have HRG := Lib.hid hrg2
  clear hrg2 hx zx r2 hg2
  go_loopg [3, 4] M.els.length (fun gn v3 v4 wj => ∃ (vs : List Int) (left : Lit → Bool) (cnt : Nat) (rt kn : Int), Hid (gn + vs.length = M.els.length) ∧ Hid (vs.Nodup ∧ ∀ x ∈ vs, ∃ e ∈ M.els, e.id = x) ∧ Hid (rt = if M.root ∈ vs then 1 else 0) ∧ Hid (kn = ((vs.flatMap (kidsOf M)).length : Nat)) ∧ v3 = .int .i64 rt ∧ v4 = .int .i64 kn ∧ w0.grows wj ∧ Hid (TreeAt wj L M) ∧ Hid (wj.ranges Tryz.prog 3 heldP L.mb w.heap.size c D left cnt) ∧ Hid (∀ i, left (.int .i64 i) = true ↔ ((M.at i).isSome = true ∧ i ∉ vs)))
  case atStart => exact ⟨[], _, _, 0, 0, Lib.hid (by simp), Lib.hid ⟨List.nodup_nil, fun x hx => nomatch hx⟩, Lib.hid (by simp), Lib.hid (by simp), by go_num, by go_num, hgw2, HT2, HRG, Lib.hid fun i => by rw [HH.out]; simp⟩
  case round =>
    obtain ⟨vs, left, cnt, rt, kn, HQ, HV, HRT, HKN, rfl, rfl, hgj, HTJ, HR, HL⟩ := hrel
    go_wp2_with (at_next; go_loud (refine wpList_next_ranges _ rfl _ rfl 3 (int_keyed Tryz.underlying3) heldP (Value.int .i64) (id : Value → Value) (fun key kl hkey => by obtain ⟨x, rfl, _⟩ := Maps.keyOf_int_inv Tryz.underlying3 hkey; exact ⟨x, rfl⟩) (fun v y _ => ⟨v, rfl⟩) L.mb w.heap.size c D left cnt rfl HR.out ?_ ?_))
    · intro hc0 hl0
      have hall : ∀ e ∈ M.els, e.id ∈ vs := fun e he => by
        apply Classical.byContradiction
        intro hn
        have := (HL.out e.id).2 ⟨by unfold Dm.at; rw [findE_of HT.out.wf.up he]; rfl, hn⟩
        rw [hl0] at this; cases this
      have hkl := HG.out.kids_all HV.out.1 HV.out.2 hall
      have hroot : M.root ∈ vs := by
        obtain ⟨r, hr, h1, _⟩ := HT.out.wf.rootE
        rw [← h1]; exact hall r hr
      obtain rfl : rt = 1 := by have := HRT.out; rwa [if_pos hroot] at this
      have hkn : kn = (M.els.length : Int) - 1 := by have := HKN.out; omega
      obtain ⟨_, hown0, _⟩ : ∃ (D' : DataW Value), (∃ c', wr.ownsMap Tryz.prog 3 heldP L.mb c' D') ∧ Maps.size D' = M.els.length := by
        obtain ⟨c', D', _, q1, _, _, q2⟩ := HTJ.out.map
        exact ⟨D', ⟨c', q1⟩, q2⟩
      have HLEN := Lib.hid (fun (W : World) (hW : wr.grows W) => (show (Builtin.len_ #[43] 3 #[.map (some L.mb)]).run Tryz.prog W = .ok (.int .i64 M.els.length) W by
        obtain ⟨c', D', _, hown', _, _, hsz'⟩ := (HTJ.out.grows hW).map
        have := hown'.len Tryz.underlying43 3
        rw [hsz'] at this; exact this))
      have hl0 := fun x => HLEN.out (wr.plus x) (by repeat (with_reducible first | assumption | exact grA | apply grB | apply grC | apply grD | refine grE ?_ (by omega) _ | refine grF ?_ (by omega) _ _))
      have hxr := HTJ.out.head
      have zxr := row_sz' hxr
      have KO := Lib.hid (fun (W : World) (hW : wr.grows W) => domOrder_any W L M (HTJ.out.grows hW))
      clear HR HL HQ HV HRT HKN hown0
      go_upto_region 19 with fail
      refine wp_region_plus_seq (by kernel_rfl) (by kernel_rfl) (fun x0 => ?_)
      repeat (any_goals (first | (refine wpSeqL_free rfl ?_; first | (go_big_quiet_skip; refine wpQuiet_nil ?_) | (go_big_quiet_step (fail); refine wpQuiet_nil ?_) | (refine wpQuiet_step (fun K hK => ?_); go_simp; split <;> (refine hK _ ?_; clear hK K; refine wpQuiet_nil ?_))) | (refine wpSeqL_link rfl (fun K hK => ?_); go_simp; first | first | (refine hK _ _ (by show World.grows _ _; repeat (first | assumption | exact grA | apply grB | apply grC | apply grD)) ?_; clear hK K) | (((go_at_call 23; go_loud ((with_reducible refine (KO.out _ (by repeat (with_reducible first | assumption | exact grA | apply grB | apply grC | apply grD | refine grE ?_ (by omega) _ | refine grF ?_ (by omega) _ _))).mono ?_); rintro r w5 ⟨v5, rfl, hg5, hv5⟩; (obtain ⟨a5, c5, rfl⟩ := own_slice hv5); (have hgw5 : wr.grows w5 := World.grows.trans (by repeat (with_reducible first | assumption | exact grA | apply grB | apply grC | apply grD | refine grE ?_ (by omega) _ | refine grF ?_ (by omega) _ _)) hg5); (have hl5 := fun x => HLEN.out (w5.plus x) (hgw5.trans (World.grows.refl.plus x))); (have hl5' := HLEN.out w5 hgw5); (have hx5 := (HTJ.out.grows hgw5).head); (have zx5 := row_sz' hx5); clear hv5))); refine ⟨_, rfl, hK _ _ (by show World.grows _ _; repeat (first | assumption | exact grA | apply grB | apply grC | apply grD)) ?_⟩; clear hK K) | (split <;> (first | (refine hK _ _ (by show World.grows _ _; repeat (first | assumption | exact grA | apply grB | apply grC | apply grD)) ?_; clear hK K) | (((go_at_call 23; go_loud ((with_reducible refine (KO.out _ (by repeat (with_reducible first | assumption | exact grA | apply grB | apply grC | apply grD | refine grE ?_ (by omega) _ | refine grF ?_ (by omega) _ _))).mono ?_); rintro r w5 ⟨v5, rfl, hg5, hv5⟩; (obtain ⟨a5, c5, rfl⟩ := own_slice hv5); (have hgw5 : wr.grows w5 := World.grows.trans (by repeat (with_reducible first | assumption | exact grA | apply grB | apply grC | apply grD | refine grE ?_ (by omega) _ | refine grF ?_ (by omega) _ _)) hg5); (have hl5 := fun x => HLEN.out (w5.plus x) (hgw5.trans (World.grows.refl.plus x))); (have hl5' := HLEN.out w5 hgw5); (have hx5 := (HTJ.out.grows hgw5).head); (have zx5 := row_sz' hx5); clear hv5))); refine ⟨_, rfl, hK _ _ (by show World.grows _ _; repeat (first | assumption | exact grA | apply grB | apply grC | apply grD)) ?_⟩; clear hK K))))))
      all_goals (refine wpSeqL_end ?_)
      have hord := HORD.out
      go_wp2_with fail
      go_ret
      exact ⟨by simp [hord, hkn], hgj.trans (by repeat (with_reducible first | assumption | exact grA | apply grB | apply grC | apply grD | refine grE ?_ (by omega) _ | refine grF ?_ (by omega) _ _)), HTJ.out.grows (by repeat (with_reducible first | assumption | exact grA | apply grB | apply grC | apply grD | refine grE ?_ (by omega) _ | refine grF ?_ (by omega) _ _))⟩
    · intro x c' kl y1 y2 w3 cnt' hkx hlx hRc hat hrg3 hcl hg3 hs3 hen
      obtain ⟨_, hx', rfl, hwx⟩ := Maps.keyOf_int_inv Tryz.underlying3 hkx
      cases hx'
      obtain ⟨hsome, hnv⟩ := (HL.out x).1 hlx
      cases hat0 : M.at x with
      | none => rw [hat0] at hsome; cases hsome
      | some e =>
        obtain ⟨he, rfl⟩ := findE_some hat0
        have hc' : c' = .pointer (some ⟨L.bl e.id, 0, none⟩) := by
          have h1 := hat nilP
          have h2 := HMP.out.2 e.id
          rw [h1] at h2
          unfold heldP at hRc
          cases hRc
          injection h2 with h2
          exact (show c' = mvOf L M e.id from h2).trans (by unfold mvOf; rw [hat0])
        subst hc'
        have hw0 : w0.heap.size ≤ w.heap.size := s0
        have hgw3 : w0.grows w3 := World.grows.grown hgj hg3 (fun k hk => by cases hk; exact hw0)
        have r3 : ∀ k, k < wr.heap.size → k ≠ w.heap.size → w3.row k = wr.row k := fun k hk hn => World.row_grow hg3 hk (fun h => by injection h with h; exact hn h)
        have hT3 := HTJ.out.keep (W := w3) fun k hk hl => r3 k hl (by have := HLT.out k hk; omega)
        have HT3 := Lib.hid hT3
        have hx3 := hT3.head
        have zx3 := row_sz' hx3
        have hrow := (hT3.els e he).1
        have zr := row_sz' hrow
        obtain ⟨ka, kc, ek⟩ := own_slice (hT3.els e he).2.1
        obtain ⟨aa, ac, ea⟩ := own_slice (hT3.els e he).2.2
        unfold elC at hrow
        rw [ek, ea] at hrow
        have HEK := Lib.hid ek
        have HE := Lib.hid he; have HNV := Lib.hid hnv; have HRG3 := Lib.hid hrg3
        have HEN := Lib.hid hen
        have hmbl := (HRG3.out |> ranges_lt)
        have hw3r := hmbl.2
        have HKF := Lib.hid (HG.out.kids_few (vs := vs ++ [e.id]) (by
          rw [List.nodup_append]
          exact ⟨HV.out.1, by simp, fun a ha b hb hab => by simp at hb; subst hb; subst hab; exact hnv ha⟩) (fun y hy => by
          rcases List.mem_append.1 hy with hy | hy
          · exact HV.out.2 y hy
          · simp at hy; exact ⟨e, he, hy.symm⟩))
        have HK2 := Lib.hid (show kn + (e.ks.length : Int) = (((vs ++ [e.id]).flatMap (kidsOf M)).length : Nat) by
          rw [List.flatMap_append, List.length_append, List.flatMap_cons, kidsOf_at HT.out.wf he, HKN.out]; simp)
        have hkn0 : 0 ≤ kn := by have := HKN.out; omega
        have hknm : kn + (e.ks.length : Int) ≤ 256 := by have := HK2.out; have := HKF.out; omega
        clear hat hRc hlx hkx hwx hsome hat0 hnv hrg3 r3 hT3 ek ea he
        by_cases hr : e.id = M.root
        case' pos =>
          have hp : e.p = -1 := by
            obtain ⟨r, hr1, hr2, hr3⟩ := HT.out.wf.rootE
            obtain rfl := ids_inj HT.out.wf.up HE.out hr1 (hr.trans hr2.symm)
            exact hr3
          obtain rfl : rt = 0 := by have := HRT.out; rwa [if_neg (by rw [← hr]; exact HNV.out)] at this
          have HRR := Lib.hid hr
          clear hr
          go_upto_region 10 with fail
          have q8 : w0.grows (w3.setCell ⟨L.t, 1, none⟩ (.int .i64 e.id)) := grF hgw3 ht0 _ _
          have qr : ∀ k, (w3.setCell ⟨L.t, 1, none⟩ (.int .i64 e.id)).row k = w3.row k := fun k => by
            rw [World.row_setCell]
            by_cases hk : k = L.t
            · subst hk; rw [if_pos rfl, hx3, HRR.out]; rfl
            · rw [if_neg hk]
          have HT8 := Lib.hid (HT3.out.keep (W := w3.setCell ⟨L.t, 1, none⟩ (.int .i64 e.id)) fun k _ _ => qr k)
          have HR8 := Lib.hid (ranges_row HRG3.out (qr L.mb) (qr w.heap.size))
          have HRT8 := Lib.hid (show (1 : Int) = if M.root ∈ vs ++ [e.id] then 1 else 0 by rw [if_pos (by rw [← HRR.out]; simp)])
          have hsz8 : w.heap.size < (w3.setCell ⟨L.t, 1, none⟩ (.int .i64 e.id)).heap.size := by rw [World.setCell_size']; exact hw3r
          generalize w3.setCell ⟨L.t, 1, none⟩ (.int .i64 e.id) = w8 at *
          clear qr hx3 zx3 hrow zr hp
        case' neg =>
          obtain ⟨f, hf, hfp, _⟩ := HG.out.par e HE.out hr
          have hp : ¬ e.p = -1 := by
            have := HT.out.wf.low f hf
            omega
          have hpb : (e.p == -1) = false := by simp [hp]
          have hlk : ∀ x : Ext, (Instr.lookup 43 (.map (some L.mb)) (.int .i64 e.p) false).run Tryz.prog (w3.plus x) = .ok (.pointer (some ⟨L.bl f.id, 0, none⟩)) (w3.plus x) := fun x => by
            have h1 := (HT3.out.grows (World.grows.refl.plus x)).look e.p (HT.out.elWf e HE.out).2.1
            unfold mvOf at h1
            rw [← hfp, show M.at f.id = some f from findE_of HT.out.wf.up hf] at h1
            rw [← hfp]; exact h1
          go_upto_region 8 with fail
          refine wp_region_plus_lit (by kernel_rfl) (by kernel_rfl) ?_
          repeat (go_big_quiet_step (fail))
          (refine wpQuiet_nil ?_; intro _ hw'; obtain ⟨xq, hw''⟩ := hw'; subst hw'')
          go_upto_region 10 with fail
          have q8 : w0.grows (w3.plus xq) := (by repeat (with_reducible first | assumption | exact grA | apply grB | apply grC | apply grD | refine grE ?_ (by omega) _ | refine grF ?_ (by omega) _ _))
          have HT8 := Lib.hid (HT3.out.grows (W := w3.plus xq) (by repeat (with_reducible first | assumption | exact grA | apply grB | apply grC | apply grD | refine grE ?_ (by omega) _ | refine grF ?_ (by omega) _ _)))
          have hmbl1 := hmbl.1
          have HR8 := Lib.hid (ranges_row HRG3.out (World.grows.row_eq (w := w3) (W := w3.plus xq) (by repeat (with_reducible first | assumption | exact grA | apply grB | apply grC | apply grD | refine grE ?_ (by omega) _ | refine grF ?_ (by omega) _ _)) hmbl.1) (World.grows.row_eq (w := w3) (W := w3.plus xq) (by repeat (with_reducible first | assumption | exact grA | apply grB | apply grC | apply grD | refine grE ?_ (by omega) _ | refine grF ?_ (by omega) _ _)) hmbl.2))
          have HRT8 := Lib.hid (show rt = if M.root ∈ vs ++ [e.id] then 1 else 0 by rw [HRT.out]; simp [show ¬ M.root = e.id from fun h => hr h.symm])
          have hsz8 : w.heap.size < (w3.plus xq).heap.size := Nat.lt_of_lt_of_le hw3r (show w3.grows (w3.plus xq) from (by repeat (with_reducible first | assumption | exact grA | apply grB | apply grC | apply grD | refine grE ?_ (by omega) _ | refine grF ?_ (by omega) _ _))).below.size
          generalize w3.plus xq = w8 at *
          clear hx3 zx3 hrow zr hp hpb hr hf hfp hlk hmbl1
        all_goals
          have hT8 := HT8.out
          have hrow := (hT8.els e HE.out).1
          have zr := row_sz' hrow
          unfold elC at hrow
          rw [HEK.out] at hrow
          have hkw := (HT.out.elWf e HE.out).2.2.2.2.2.2.2
          clear hT8
          go_upto_region 12 with fail
          have hg9 : w8.grows (w8.alloc (Obj.map #[] 0)) := (by repeat (with_reducible first | assumption | exact grA | apply grB | apply grC | apply grD | refine grE ?_ (by omega) _ | refine grF ?_ (by omega) _ _))
          have HM9 := Lib.hid (MpI.made w8)
          have hgw9 : w0.grows (w8.alloc (Obj.map #[] 0)) := (by repeat (with_reducible first | assumption | exact grA | apply grB | apply grC | apply grD | refine grE ?_ (by omega) _ | refine grF ?_ (by omega) _ _))
          have HT9 := Lib.hid (HT8.out.grows hg9)
          have HR9 := Lib.hid (ranges_row HR8.out (hg9.row_eq (ranges_lt HR8.out).1) (hg9.row_eq (ranges_lt HR8.out).2))
          have hsz9 : w.heap.size < w8.heap.size := hsz8
          have hkw1 : ∀ k ∈ e.ks, I64 k := (HT.out.elWf e HE.out).2.2.2.1
          have HKW := Lib.hid hkw1
          have hsz90 : w8.heap.size < (w8.alloc (Obj.map #[] 0)).heap.size := by simp
          generalize w8.alloc (Obj.map #[] 0) = w9 at *
          generalize w8.heap.size = mb at *
          clear hrow zr hkw1 hg9 HT8 HR8 hsz8
          go_loopg [47] e.ks.length (fun gn v47 wk => ∃ (i : Nat) (f : Int → Option Int) (D' : DataW Value), Hid (gn + i = e.ks.length ∧ i ≤ e.ks.length) ∧ v47 = .int .i64 i ∧ w0.grows wk ∧ Hid (TreeAt wk L M) ∧ Hid (wk.ranges Tryz.prog 3 heldP L.mb w.heap.size c D (fun z => left z && !z.sameKey (.int .i64 e.id)) cnt') ∧ Hid (MpI wk mb i f D') ∧ Hid (∀ x, f x = if x ∈ e.ks.take i then some 1 else none))
          case atStart => exact ⟨0, _, _, Lib.hid ⟨by simp, Nat.zero_le _⟩, by go_num, hgw9, HT9, HR9, HM9, Lib.hid fun x => by simp⟩
          case round =>
            obtain ⟨i, f, D', HQ2, rfl, hgk, HTK, HRK, HMK, HF⟩ := hrel
            obtain ⟨m1, m2⟩ := HQ2.out
            by_cases hlt : i < e.ks.length
            · have iI : (i : Int) < (e.ks.length : Int) := by omega
              have hgt := List.getElem?_eq_getElem hlt
              have hkm := List.getElem_mem hlt
              obtain ⟨f', hf', hfk, hfp, _⟩ := HT.out.wf.kid e HE.out _ hkm
              have hgt' : e.ks[i]? = some f'.id := by rw [hgt, hfk]
              have hfi : I64 f'.id := (HT.out.elWf f' hf').1
              have hnew : f f'.id = none := by
                rw [HF.out, if_neg]
                intro hm
                obtain ⟨j, hj, hj2⟩ := List.mem_iff_getElem.1 hm
                have hji : j < i := by simp at hj; omega
                rw [List.getElem_take] at hj2
                have hnd := HT.out.wf.once e HE.out
                have := (List.getElem?_inj (by omega) hnd).1 (show e.ks[j]? = e.ks[i]? by rw [List.getElem?_eq_getElem (by omega), hgt', hj2])
                omega
              have hks := (HTK.out.els e HE.out).2.1
              rw [HEK.out] at hks
              have hIr := IntsAt_own hks
              obtain ⟨_, _, e4, _, _, b5⟩ := hIr
              injection e4 with e4 e5 e6
              clear e5
              subst e4; subst e6
              rcases b5 with h0' | ⟨g, off, rfl, _, h4⟩
              · rw [h0'] at hlt; simp at hlt
              obtain ⟨cs, _, el, rfl⟩ := h4 i _ hgt'
              have c0 := el.cell (j := 0) rfl
              rw [World.cell?_row, Nat.add_zero, Nat.mul_one] at c0
              have zg := lt_sz el.lt
              have hlm := HMK.out.look f'.id hfi
              rw [hnew] at hlm
              have hlm' := HMK.out.own.lt
              have hvl : i < maxLen := by simp only [maxLen]; omega
              have HOK := Lib.hid HMK.out.own
              clear hks h4 el hgt hkm hfk
              go_upto_region 15 with (at_mapUpdate; go_loud (refine wpList_mapUpdate_own _ rfl (.tmp 51) (.tmp 52) (.tmp 54) 72 rfl 3 3 (int_keyed Tryz.underlying3) Tryz.underlying72 heldP mb i D' rfl HOK.out hvl (.int .i64 f'.id) (.int .i64 1) (.int .i64 f'.id) rfl (by simp [go_sem]) (keyOf_int_mk Tryz.underlying3 (lit_wf hfi)) _ [] rfl ?_); intro w5 hown5 hgr5)
              have hs5 := hgr5.size
              have hrg := ranges_lt HRK.out
              have rr : ∀ k, k < wr.heap.size → k ≠ mb → w5.row k = wr.row k := fun k hk hn => World.row_grow hgr5 hk (fun h => by injection h with h; exact hn h)
              have hmbw : L.mb < w.heap.size := HLT.out L.mb (.inr (.inl rfl))
              have hgw5 : w0.grows w5 := World.grows.grown hgk hgr5 (fun k hk => by cases hk; omega)
              have HT5 := Lib.hid (HTK.out.keep (W := w5) fun k hk hl => rr k hl (by have := HLT.out k hk; omega))
              have HR5 := Lib.hid (ranges_row HRK.out (rr L.mb hrg.1 (by omega)) (rr w.heap.size hrg.2 (by omega)))
              have HM5 := Lib.hid (HMK.out.put hnew hown5)
              have hlk5 := HT5.out.look f'.id hfi
              unfold mvOf at hlk5
              rw [show M.at f'.id = some f' from findE_of HT.out.wf.up hf'] at hlk5
              simp only at hlk5
              have hlm5 := HM5.out.look f'.id hfi
              rw [if_pos rfl] at hlm5
              simp only [Option.getD_some] at hlm5
              have hx5 := HT5.out.head
              have zx5 := row_sz' hx5
              have hrow5 := (HT5.out.els f' hf').1
              have zr5 := row_sz' hrow5
              unfold elC at hrow5
              rw [hfp] at hrow5
              have HF5 := Lib.hid (show ∀ x, (if x = f'.id then some (1 : Int) else f x) = if x ∈ e.ks.take (i + 1) then some 1 else none from fun x => by
                rw [HF.out, List.take_add_one, hgt']
                by_cases hx : x = f'.id <;> simp [hx])
              clear rr hrg hown5 hgr5 hlm hlm' c0 zg HOK HMK HRK HTK HF hnew
              go_wp2_with fail
              go_roundg (e.ks.length - (i + 1))
              case measure => omega
              case rel => exact ⟨i + 1, _, _, Lib.hid ⟨by omega, by omega⟩, by go_num, hgw5, HT5, HR5, HM5, HF5⟩
            · have iI : ¬ (i : Int) < (e.ks.length : Int) := by omega
              have hrow5 := (HTK.out.els e HE.out).1
              have zr5 := row_sz' hrow5
              unfold elC at hrow5
              rw [HEK.out] at hrow5
              have hq := HQ.out
              have HV5 := Lib.hid (show (vs ++ [e.id]).Nodup ∧ ∀ x ∈ vs ++ [e.id], ∃ e ∈ M.els, e.id = x from ⟨by
                rw [List.nodup_append]
                exact ⟨HV.out.1, by simp, fun a ha b hb hab => by simp at hb; subst hb; subst hab; exact HNV.out ha⟩, fun y hy => by
                rcases List.mem_append.1 hy with hy | hy
                · exact HV.out.2 y hy
                · simp at hy; exact ⟨e, HE.out, hy.symm⟩⟩)
              have hvn : vs.length + 1 ≤ M.els.length := by
                have h1 := nodup_len (l := vs ++ [e.id]) (m := M.els.map El.id) HV5.out.1 fun x hx => by
                  obtain ⟨e', he', rfl⟩ := HV5.out.2 x hx
                  exact List.mem_map.2 ⟨e', he', rfl⟩
                simp at h1; omega
              have HL5 := Lib.hid (show ∀ i, (left (.int .i64 i) && !(Lit.int .i64 i).sameKey (.int .i64 e.id)) = true ↔ ((M.at i).isSome = true ∧ i ∉ vs ++ [e.id]) from fun i => by
                rw [Bool.and_eq_true, HL.out i]
                by_cases hi : i = e.id
                · subst hi; simp [Lit.sameKey]
                · simp [Lit.sameKey, hi])
              go_wp2_with fail
              go_roundg (M.els.length - (vs.length + 1))
              case measure => omega
              case rel => exact ⟨vs ++ [e.id], _, cnt', _, _, Lib.hid (by simp; omega), HV5, HRT8, HK2, by go_num, by go_num, hgk, HTK, HRK, HL5⟩
end Go.Proofs.YtdbddnkjiehaiaaGreat

/- WALK over dom: Load of a tree's own elements. -/
namespace Go.Proofs.YtdbddnkjiehaiaaGreat
open Go.Maps Go.RowKit Go.Sort
theorem deep_le {M : Dm} (hG : M.Good) {e : El} (he : e ∈ M.els) : M.deep 32 e.id ≤ 32 := by
  obtain ⟨dep, d1, d2, d3⟩ := hG.wf.dep
  rw [Dm.deep_rank hG.wf hG.par d1 d2 32 e he (d3 e he)]; exact d3 e he
theorem CpSt.hd {w wj W : World} {M M' : Dm} {ot ob r : Nat} {L : Ly} {vs : List Int} {D : DataW Value} (h : CpSt w wj M ot ob r L vs D) (he : M'.els = M.els) (hg : w.grows W) (hW : ∀ k, k ≠ ot → W.row k = wj.row k) (hs : W.heap.size = wj.heap.size) (hh : W.row ot = some (.cells #[.map (some ob), .int .i64 M'.root, .int .i64 M'.next] 45)) (hobt : ob ≠ ot) (hlow : ∀ e ∈ M.els, 0 ≤ e.id) : CpSt w W M' ot ob r L vs D := by
  have nt : ∀ k n (y : El), y ∈ M.els → L.tg k = (y.id, n) → k ≠ ot := fun k n y hy hk hh => by
    rw [hh, h.tt] at hk; injection hk with hk _; have := hlow y hy; omega
  refine ⟨h.t, h.mb, hg, hh, ownsMap_row h.map (hW _ hobt), h.has, h.at1, h.at0, h.sz, h.nd, (by rw [he]; exact h.sub), ?_, h.tt, h.tm, (by rw [he]; exact h.tg), h.lot, h.lob, (by rw [he]; exact h.low), h.lr, by rw [hs]; exact h.rl, h.rot⟩
  rw [he]
  intro y hy hyv
  obtain ⟨q1, q2, q3⟩ := h.els y hy hyv
  obtain ⟨t1, t2, t3⟩ := h.tg y hy hyv
  exact ⟨(hW _ (nt _ _ y hy t1)).trans q1, ownsRow_row q2 fun g hg => hW g (nt _ _ y hy (t2 g hg)), ownsRow_row q3 fun g hg => hW g (nt _ _ y hy (t3 g hg))⟩

set_option maxRecDepth 100000 in
set_option maxHeartbeats 40000000 in
theorem domLoad_any (w : World) (v : Value) (M : Dm) (h : ElsAt w v M.els) (hG : M.Good) (hF : M.Fit) (hS : M.Short) (hw : ∀ e ∈ M.els, e.Wf) : Calls Tryz.prog 4 #[v] w fun r w' => ∃ L : Ly, r = .returned (.tuple #[.pointer (some ⟨L.t, 0, none⟩), .int .i64 0]) ∧ w.grows w' ∧ TreeAt w' L M.back ∧ ∀ k, L.own M.back.els k → w.heap.size ≤ k := by
  obtain ⟨a0, c0, rfl, _⟩ := h.len
  have hne : M.els.length ≠ 0 := fun hh => by
    obtain ⟨r, hr, _⟩ := hG.wf.rootE
    rw [List.length_eq_zero_iff.1 hh] at hr; cases hr
  have hfew := hG.wf.few
  have HE := Lib.hid (els_get h).2
  have HG := Lib.hid hG; have HF := Lib.hid hF; have HS := Lib.hid hS; have HW := Lib.hid hw
  clear h hG hF hS hw
  have hmk := fun (W : World) => run_makeMap (P := Tryz.prog) 43 W
  have i1 : ¬ (M.els.length : Int) = 0 := by omega
  have i2 : ¬ (256 : Int) < (M.els.length : Int) := by omega
  have i3 : ((M.els.length : Int) == 0) = false := by simp; exact fun hh => hne (by rw [hh]; rfl)
  go_enter Tryz.func4, Tryz.ntmps4
  go_upto_region 8 with fail
  have hg1 : w.grows ((w.alloc (Obj.map #[] 0)).alloc (.cells #[.map (some w.heap.size), .int .i64 0, .int .i64 0] 45)) := (by repeat (with_reducible first | assumption | exact grA | apply grB | apply grC | apply grD | refine grE ?_ (by omega) _ | refine grF ?_ (by omega) _ _))
  have hr1 : ((w.alloc (Obj.map #[] 0)).alloc (.cells #[.map (some w.heap.size), .int .i64 0, .int .i64 0] 45)).row (w.heap.size + 1) = some (.cells #[.map (some w.heap.size), .int .i64 0, .int .i64 0] 45) := by simp [go_sem]
  have hm1 : ((w.alloc (Obj.map #[] 0)).alloc (.cells #[.map (some w.heap.size), .int .i64 0, .int .i64 0] 45)).ownsMap Tryz.prog 3 heldP w.heap.size 0 (.map []) := ownsMap_row (World.ownsMap_made w _ _ _) (World.grows.row_eq (by repeat (with_reducible first | assumption | exact grA | apply grB | apply grC | apply grD | refine grE ?_ (by omega) _ | refine grF ?_ (by omega) _ _)) (by simp))
  have hz1 : w.heap.size < ((w.alloc (Obj.map #[] 0)).alloc (.cells #[.map (some w.heap.size), .int .i64 0, .int .i64 0] 45)).heap.size := by simp; omega
  have HC0 := Lib.hid (show CpSt w ((w.alloc (Obj.map #[] 0)).alloc (.cells #[.map (some w.heap.size), .int .i64 0, .int .i64 0] 45)) ⟨0, 0, M.els⟩ (w.heap.size + 1) w.heap.size w.heap.size ⟨w.heap.size + 1, w.heap.size, fun _ => 0, fun _ => .slice none 0 0, fun _ => .slice none 0 0, fun g => if g = w.heap.size + 1 then (-1, 0) else (-1, 1)⟩ [] (.map []) from
    ⟨rfl, rfl, hg1, hr1, hm1, fun _ => rfl, fun i hi => (by cases hi), fun i _ => rfl, rfl, List.nodup_nil, fun x hx => (by cases hx), fun e _ hx => (by cases hx), if_pos rfl, if_neg (by omega), fun e _ hx => (by cases hx), by omega, Nat.le_refl _, fun e _ hx => (by cases hx), Nat.le_refl _, hz1, by omega⟩)
  generalize ((w.alloc (Obj.map #[] 0)).alloc (.cells #[.map (some w.heap.size), .int .i64 0, .int .i64 0] 45)) = w1 at *
  clear hr1 hm1
  go_loopg [5, 22] M.els.length (fun gn v5 v22 wj => ∃ (i : Nat) (lc : Int) (Lc : Ly) (D' : DataW Value), Hid (gn + i = M.els.length ∧ i ≤ M.els.length) ∧ v22 = .int .i64 i ∧ v5 = .int .i64 lc ∧ Hid (lc = lastI (M.els.take i)) ∧ Hid (CpSt w wj ⟨0, 0, M.els⟩ (w.heap.size + 1) w.heap.size w.heap.size Lc ((M.els.take i).map El.id) D'))
  case atStart => exact ⟨0, _, _, _, Lib.hid ⟨by simp, Nat.zero_le _⟩, by go_num, rfl, Lib.hid (by simp [lastI]), HC0⟩
  case round =>
    obtain ⟨i, lc, Lc, D', HQ, rfl, rfl, HL, HC⟩ := hrel
    obtain ⟨j1, j2⟩ := HQ.out
    have hgr := HC.out.gr
    by_cases hlt : i < M.els.length
    · have iI : (i : Int) < (M.els.length : Int) := by omega
      rcases HE.out with h0 | ⟨g, off, rfl, e1⟩
      · rw [h0] at hlt; simp at hlt
      have hgt := List.getElem?_eq_getElem hlt
      have hmem := List.getElem_mem hlt
      have hlast := lastI_lt HG.out.wf.up (fun e he => (HG.out.wf.low e he).1) hgt
      have hlast2 := lastI_take hgt
      obtain ⟨cs, l1, k1, ka, aa, kc, ac, rfl, hks, hats⟩ := e1 i _ hgt
      have HTK := Lib.hid (show M.els.take (i + 1) = M.els.take i ++ [M.els[i]] by rw [List.take_add_one, hgt]; rfl)
      have hnv : M.els[i].id ∉ (M.els.take i).map El.id := fun hm => by
        obtain ⟨x, hx, hxi⟩ := List.mem_map.1 hm
        obtain ⟨j, hj, rfl⟩ := List.mem_iff_getElem.1 hx
        have hji : j < i := by simp at hj; omega
        rw [List.getElem_take] at hxi
        have := List.pairwise_iff_getElem.1 HG.out.wf.up j i (by omega) hlt hji
        omega
      generalize M.els[i] = e at *
      have k2 := k1.grows hgr
      have z3 := lt_sz k2.lt
      obtain ⟨u1, u2⟩ := k2
      rw [l1] at u1 u2
      have hlow := HG.out.wf.low e hmem
      have hnx := HG.out.wf.nxt
      have hew := HW.out e hmem
      have HWR := Lib.hid (fun (W : World) (hg : w.grows W) => domWrong_any W e lc ka aa kc ac (hats.grows hg fun _ _ _ h => h) hew (HF.out.2 e hmem) (HG.out.ups e hmem) (HS.out e hmem) (by rw [HL.out]; exact hlast) hlow.1 (by omega))
      have HCP := Lib.hid (fun (W : World) (hg : w.grows W) => domCopied_any W e ka aa kc ac (hks.grows hg fun _ _ _ h => h) (hats.grows hg fun _ _ _ h => h) (by have := hew.2.2.2.2.2.2.2; omega) (by have := hew.2.2.2.2.2.2.1; omega))
      have HNV := Lib.hid hnv; have HM := Lib.hid hmem; have HL2 := Lib.hid hlast2
      clear e1 hks hats k1 hgt hnv hmem hlast hlast2 hlow hnx
      go_upto_region 11 with (go_at_call 10; go_loud ((with_reducible refine (HWR.out _ (by repeat (with_reducible first | assumption | exact grA | apply grB | apply grC | apply grD | refine grE ?_ (by omega) _ | refine grF ?_ (by omega) _ _))).mono ?_); rintro r wB ⟨rfl, hgB⟩))
      have hgrB : wr.grows wB := World.grows.trans (by repeat (with_reducible first | assumption | exact grA | apply grB | apply grC | apply grD | refine grE ?_ (by omega) _ | refine grF ?_ (by omega) _ _)) hgB
      have hqB : wB.row wr.heap.size = some (.cells #[.int .i64 e.id, .int .i64 e.p, .string e.tag, .slice ka e.ks.length kc, .slice aa e.at'.length ac, .int .i64 e.bx.ty, .string e.bx.nm, .int .i64 e.bx.a, .int .i64 e.bx.b, .int .i64 e.bx.c, .int .i64 e.bx.d] 49) := by
        have q2 := hgB.row_eq (g := wr.heap.size) (by simp)
        simp [go_sem] at q2; exact q2
      have zB := row_sz' hqB
      have hgwB : w.grows wB := hgr.trans hgrB
      clear hgB u1 u2 z3
      go_upto_region 15 with (go_at_call 11; go_loud ((with_reducible refine (HCP.out _ hgwB).mono ?_); rintro r wC ⟨ka', aa', kc', ac', rfl, hgC, hkC, haC⟩))
      have hd : ∀ g, (Value.slice ka' e.ks.length kc').ownBlock = some g → (Value.slice aa' e.at'.length ac').ownBlock ≠ some g := fun g h1 h2 => by
        rcases hkC.2 with ⟨h0, _⟩ | ⟨b1, _, _, h0, _, q1, _⟩
        · injection h0 with h0; subst h0; cases h1
        rcases haC.2 with ⟨h3, _⟩ | ⟨b2, _, _, h3, _, q2, _⟩
        · injection h3 with h3; subst h3; cases h2
        injection h0 with h0; injection h3 with h3
        subst h0; subst h3
        injection h1 with h1; injection h2 with h2
        subst h1; subst h2
        rw [q1] at q2
        injection q2 with q2
        injection q2 with _ q2 _
        exact absurd q2 (by decide)
      have hsC := hgC.below.size
      have hgC4 : wC.grows (wC.alloc (.cells #[.int .i64 e.id, .int .i64 e.p, .string e.tag, .slice ka' e.ks.length kc', .slice aa' e.at'.length ac', .int .i64 e.bx.ty, .string e.bx.nm, .int .i64 e.bx.a, .int .i64 e.bx.b, .int .i64 e.bx.c, .int .i64 e.bx.d] 49)) := World.grows.alloc World.grows.refl _
      have hn4 : (wC.alloc (.cells #[.int .i64 e.id, .int .i64 e.p, .string e.tag, .slice ka' e.ks.length kc', .slice aa' e.at'.length ac', .int .i64 e.bx.ty, .string e.bx.nm, .int .i64 e.bx.a, .int .i64 e.bx.b, .int .i64 e.bx.c, .int .i64 e.bx.d] 49)).row wC.heap.size = some (.cells #[.int .i64 e.id, .int .i64 e.p, .string e.tag, .slice ka' e.ks.length kc', .slice aa' e.at'.length ac', .int .i64 e.bx.ty, .string e.bx.nm, .int .i64 e.bx.a, .int .i64 e.bx.b, .int .i64 e.bx.c, .int .i64 e.bx.d] 49) := by simp [go_sem]
      generalize (wC.alloc (.cells #[.int .i64 e.id, .int .i64 e.p, .string e.tag, .slice ka' e.ks.length kc', .slice aa' e.at'.length ac', .int .i64 e.bx.ty, .string e.bx.nm, .int .i64 e.bx.a, .int .i64 e.bx.b, .int .i64 e.bx.c, .int .i64 e.bx.d] 49)) = w4 at *
      have hgB4 : wB.grows w4 := hgC.trans hgC4
      have hgr4 : wr.grows w4 := hgrB.trans hgB4
      have hhl := (row_sz' HC.out.head).1
      have hml := HC.out.map.lt
      have hx4 : w4.row (w.heap.size + 1) = _ := (hgr4.row_eq hhl).trans HC.out.head
      have zx4 := row_sz' hx4
      have hq4 : w4.row wr.heap.size = _ := (hgB4.row_eq zB.1).trans hqB
      have zq4 := row_sz' hq4
      have HO4 := Lib.hid (ownsMap_row HC.out.map (hgr4.row_eq hml))
      have hvl : ((M.els.take i).map El.id).length < maxLen := by simp only [maxLen]; simp; omega
      have hiI := (HW.out e HM.out).1
      refine wp_region_plus_tail 6 (by kernel_rfl) (by kernel_rfl) ?_
      simp only [List.take_succ_cons, List.take_zero, List.drop_succ_cons, List.drop_zero]
      repeat (go_big_quiet_step (fail))
      refine wpQuiet_nil ?_; intro _ hw'; obtain ⟨xq, hw''⟩ := hw'; subst hw''
      have hg46 : w4.grows (w4.plus xq) := (by repeat (with_reducible first | assumption | exact grA | apply grB | apply grC | apply grD | refine grE ?_ (by omega) _ | refine grF ?_ (by omega) _ _))
      have HO6 := Lib.hid (ownsMap_row HO4.out (hg46.row_eq HO4.out.lt))
      generalize w4.plus xq = w6 at *
      go_wp2_with (at_mapUpdate; go_loud (refine wpList_mapUpdate_own _ rfl (.tmp 39) (.tmp 41) (.tmp 9) 43 rfl 3 52 (int_keyed Tryz.underlying3) Tryz.underlying43 heldP w.heap.size ((M.els.take i).map El.id).length D' rfl HO6.out hvl (.int .i64 e.id) (.pointer (some ⟨wC.heap.size, 0, none⟩)) (.int .i64 e.id) rfl (by simp [go_sem]) (keyOf_int_mk Tryz.underlying3 (lit_wf hiI)) _ [] rfl ?_); intro w5 hown5 hgr5)
      have hs5 := hgr5.size
      have hs46 := hg46.below.size
      have hsC4 := hgC4.below.size
      have hsB := hgrB.below.size
      have hsr := hgr.below.size
      have rr : ∀ k, k < w6.heap.size → k ≠ w.heap.size → w5.row k = w6.row k := fun k hk hn => World.row_grow hgr5 hk (fun h => by injection h with h; exact hn h)
      have hnl4 := (row_sz' hn4).1
      obtain ⟨L5, h5⟩ := CpSt.step (w1 := wB) (wC := wC) (W5 := w5) (nb := wC.heap.size) (ka := ka') (aa := aa') (kc := kc') (ac := ac') HC.out HM.out HNV.out (fun e he => (HG.out.wf.low e he).1) HG.out.wf.up
        (World.grows.grown (hgr.trans (hgr4.trans hg46)) hgr5 (fun k hk => by cases hk; exact Nat.le_refl _)) (fun k hk h1 h2 => (rr k (by have := hgr4.below.size; omega) h1).trans ((hg46.row_eq (by have := hgr4.below.size; omega)).trans (hgr4.row_eq hk))) (by omega) hsB hkC haC hd (Nat.le_refl _) hsC
        (fun k h1 h2 => (rr k (by omega) (by omega)).trans ((hg46.row_eq (by omega)).trans (hgC4.row_eq h2))) ((rr _ (by omega) (by omega)).trans ((hg46.row_eq hnl4).trans hn4)) hown5
      have H5 := Lib.hid (show CpSt w w5 ⟨0, 0, M.els⟩ (w.heap.size + 1) w.heap.size w.heap.size L5 ((M.els.take (i + 1)).map El.id) _ by rw [HTK.out, List.map_append]; exact h5)
      clear h5 hown5 hgr5 rr hkC haC hd hgC4 hn4 hgC hgB4 hgr4 hx4 zx4 hq4 zq4 hg46 HO6 HO4
      go_wp2_with fail
      go_roundg (M.els.length - (i + 1))
      case measure => omega
      case rel => exact ⟨i + 1, _, _, _, Lib.hid ⟨by omega, by omega⟩, by go_num, rfl, Lib.hid HL2.out.symm, H5⟩
    · have iI : ¬ (i : Int) < (M.els.length : Int) := by omega
      obtain rfl : i = M.els.length := by omega
      have hlc : lc = lastI M.els := by have := HL.out; rwa [List.take_length] at this
      obtain ⟨em, hem, hlm⟩ : ∃ e ∈ M.els, lastI M.els = e.id := lastI_mem (fun hh => hne (by rw [hh]; rfl))
      have hlow := HG.out.wf.low em hem
      have hnx := HG.out.wf.nxt
      have hlcI : 0 ≤ lc ∧ lc ≤ 1073741824 := by omega
      have HC1 := Lib.hid (show CpSt w wr ⟨0, 0, M.els⟩ (w.heap.size + 1) w.heap.size w.heap.size Lc (M.els.map El.id) D' by have := HC.out; rwa [List.take_length] at this)
      have hxr := HC1.out.head
      have zxr := row_sz' hxr
      have HLC := Lib.hid hlc
      clear HC hlow hnx hem hlm hlc
      go_upto_region 18 with fail
      have hsr := hgr.below.size
      have hxW : (wr.setCell ⟨w.heap.size + 1, 2, none⟩ (.int .i64 (lc + 1))).row (w.heap.size + 1) = some (.cells #[.map (some w.heap.size), .int .i64 M.back.root, .int .i64 M.back.next] 45) := by
        rw [show M.back.root = 0 from HF.out.1, show M.back.next = lc + 1 by rw [HLC.out]; rfl]
        simp [go_sem, hxr, zxr]
      have hgW : w.grows (wr.setCell ⟨w.heap.size + 1, 2, none⟩ (.int .i64 (lc + 1))) := grF hgr (by omega) _ _
      have HC2 := Lib.hid (HC1.out.hd (M' := M.back) rfl hgW (fun k hk => by rw [World.row_setCell, if_neg hk]) (World.setCell_size' _ _ _) hxW (by omega) (fun e he => (HG.out.wf.low e he).1))
      generalize (wr.setCell ⟨w.heap.size + 1, 2, none⟩ (.int .i64 (lc + 1))) = w8 at *
      clear hxW hxr zxr hlcI
      have hGb := HG.out.back.1
      obtain ⟨hT8, hO8⟩ := HC2.out.tree (fun e he => List.mem_map.2 ⟨e, he, rfl⟩) hGb.wf HW.out
      have HJ := Lib.hid (domJoined_any w w8 Lc M.back hgW hT8 hGb (by rw [HC2.out.t]; omega))
      rw [HC2.out.t] at HJ
      have HO8 := Lib.hid hO8
      have HGB := Lib.hid hGb
      have hLt : Lc.t = w.heap.size + 1 := HC2.out.t
      have HLt := Lib.hid hLt
      clear hT8 hO8 hGb hLt HC1 HC2
      go_upto_region 20 with (go_at_call 12; go_loud ((with_reducible refine (HJ.out).mono ?_); rintro r w9 ⟨rfl, hg9, hT9⟩))
      have hx9 := hT9.head
      rw [HLt.out] at hx9
      have zx9 := row_sz' hx9
      obtain ⟨c, D, hcn, hown, hmp, hhas, hsz⟩ := hT9.map
      have HOW := Lib.hid hown; have HMP := Lib.hid hmp; have HH := Lib.hid hhas
      have HLT := Lib.hid (fun k (hk : Lc.own M.back.els k) => hT9.lt hk)
      have HT := Lib.hid hT9
      have s0 := hg9.below.size
      clear hT9 hown hmp hhas hsz HJ
      go_wp2_with (at_range; go_loud (refine wpList_range_own _ rfl _ 43 rfl 3 52 (int_keyed Tryz.underlying3) Tryz.underlying43 heldP Lc.mb c D rfl HOW.out ?_); intro w2 hrg2 hg2 hs2)
      go_frame
      have hgw2 : w.grows w2 := World.grows.grown hg9 hg2 (fun _ h => nomatch h)
      have r2 : ∀ k, k < w9.heap.size → w2.row k = w9.row k := fun k hk => World.row_grow hg2 hk (fun h => nomatch h)
      have HT2 := Lib.hid (HT.out.keep (W := w2) fun k _ hl => r2 k hl)
      have HRG := Lib.hid hrg2
      clear hrg2 hx9 zx9 r2 hg2
      go_loopg [10] M.els.length (fun gn v10 wj => ∃ (vs : List Int) (left : Lit → Bool) (cnt : Nat), Hid (gn + vs.length = M.els.length) ∧ Hid (vs.Nodup ∧ ∀ x ∈ vs, ∃ e ∈ M.els, e.id = x) ∧ w.grows wj ∧ Hid (TreeAt wj Lc M.back) ∧ Hid (wj.ranges Tryz.prog 3 heldP Lc.mb w9.heap.size c D left cnt) ∧ Hid (∀ i, left (.int .i64 i) = true ↔ ((M.at i).isSome = true ∧ i ∉ vs)))
      case atStart => exact ⟨[], _, _, Lib.hid (by simp), Lib.hid ⟨List.nodup_nil, fun x hx => nomatch hx⟩, hgw2, HT2, HRG, Lib.hid fun i => by rw [HH.out]; simp [Dm.back_at]⟩
      case round =>
        obtain ⟨vs, left, cnt, HQ2, HV, hgj, HTJ, HR, HL3⟩ := hrel
        go_wp2_with (at_next; go_loud (refine wpList_next_ranges _ rfl _ rfl 3 (int_keyed Tryz.underlying3) heldP (Value.int .i64) (id : Value → Value) (fun key kl hkey => by obtain ⟨x, rfl, _⟩ := Maps.keyOf_int_inv Tryz.underlying3 hkey; exact ⟨x, rfl⟩) (fun v y _ => ⟨v, rfl⟩) Lc.mb w9.heap.size c D left cnt rfl HR.out ?_ ?_))
        · intro hc0 hl0
          go_wp2_with fail
          go_ret2
          exact ⟨Lc, by rw [HLt.out]; rfl, hgj, HTJ.out, HO8.out⟩
        · intro x c' kl y1 y2 w3 cnt' hkx hlx hRc hat hrg3 hcl hg3 hs3 hen
          obtain ⟨_, hx', rfl, hwx⟩ := Maps.keyOf_int_inv Tryz.underlying3 hkx
          cases hx'
          obtain ⟨hsome, hnv⟩ := (HL3.out x).1 hlx
          cases hat0 : M.at x with
          | none => rw [hat0] at hsome; cases hsome
          | some e =>
            obtain ⟨he, rfl⟩ := findE_some hat0
            have hgw3 : w.grows w3 := World.grows.grown hgj hg3 (fun k hk => by cases hk; exact s0)
            have r3 : ∀ k, k < wr.heap.size → k ≠ w9.heap.size → w3.row k = wr.row k := fun k hk hn => World.row_grow hg3 hk (fun h => by injection h with h; exact hn h)
            have HT3 := Lib.hid (HTJ.out.keep (W := w3) fun k hk hl => r3 k hl (by have := HLT.out k hk; omega))
            have HDP := Lib.hid (domDepth_any w3 Lc M.back HT3.out HGB.out.par e he)
            rw [HLt.out] at HDP
            have hdl := deep_le HGB.out he
            have HRG3 := Lib.hid hrg3
            have hq := HQ2.out
            have HV5 := Lib.hid (show (vs ++ [e.id]).Nodup ∧ ∀ x ∈ vs ++ [e.id], ∃ e ∈ M.els, e.id = x from ⟨by
              rw [List.nodup_append]
              exact ⟨HV.out.1, by simp, fun a ha b hb hab => by simp at hb; subst hb; subst hab; exact hnv ha⟩, fun y hy => by
              rcases List.mem_append.1 hy with hy | hy
              · exact HV.out.2 y hy
              · simp at hy; exact ⟨e, he, hy.symm⟩⟩)
            have hvn : vs.length + 1 ≤ M.els.length := by
              have h1 := nodup_len (l := vs ++ [e.id]) (m := M.els.map El.id) HV5.out.1 fun x hx => by
                obtain ⟨e', he', rfl⟩ := HV5.out.2 x hx
                exact List.mem_map.2 ⟨e', he', rfl⟩
              simp at h1; omega
            have HL5 := Lib.hid (show ∀ i, (left (.int .i64 i) && !(Lit.int .i64 i).sameKey (.int .i64 e.id)) = true ↔ ((M.at i).isSome = true ∧ i ∉ vs ++ [e.id]) from fun i => by
              rw [Bool.and_eq_true, HL3.out i]
              by_cases hi : i = e.id
              · subst hi; simp [Lit.sameKey]
              · simp [Lit.sameKey, hi])
            generalize M.back.deep 32 e.id = dp at *
            have hdI : ¬ (32 : Int) < (dp : Int) := by omega
            clear hat hRc hlx hkx hwx hsome hat0 hnv hrg3 r3 he
            go_wp2_with (go_at_call 13; go_loud ((with_reducible refine (HDP.out).mono ?_); rintro r w4 ⟨rfl, rfl⟩))
            go_roundg (M.els.length - (vs.length + 1))
            case measure => omega
            case rel => exact ⟨vs ++ [e.id], _, cnt', Lib.hid (by simp; omega), HV5, hgw3, HT3, HRG3, HL5⟩
end Go.Proofs.YtdbddnkjiehaiaaGreat

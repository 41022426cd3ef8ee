/- Texts of the walk, one after the other; what each proves stands ahead of it. -/
import Derived.Test.YtdbddnkjiehaiaaGreatMb
import Derived.Test.YtdbddnkjiehaiaaGreatMi
set_option linter.unusedSimpArgs false
set_option linter.unusedVariables false
/- WALKS over dom: Set, Unset. No condition but that a tree stands in memory, its attributes by rising names. -/
namespace Go.Proofs.YtdbddnkjiehaiaaGreat
open Go.Maps Go.RowKit Go.Sort

set_option maxRecDepth 100000 in
set_option maxHeartbeats 8000000 in
theorem domUnset_any (w : World) (L : Ly) (M : Dm) (h : TreeAt w L M) (hu : M.Ups) (id : Int) (n : ByteArray) (hi : I64 id) :
    Calls Tryz.prog 33 #[.pointer (some ⟨L.t, 0, none⟩), .int .i64 id, .string n] w (Edit w L M (M.unset id n).2 (.int .i64 (M.unset id n).1)) := by
  have hx := h.head
  have zx := row_sz' hx
  have hlk := h.look id hi
  unfold mvOf at hlk
  cases hat : M.at id with
  | none =>
    rw [hat] at hlk
    simp only at hlk
    have e : M.unset id n = (5, M) := by unfold Dm.unset; rw [hat]
    rw [e]
    have HT := Lib.hid h
    clear h e hat
    go_enter Tryz.func33, Tryz.ntmps33
    go_wp2_with fail
    go_ret
    exact ⟨rfl, Edit.no (v := undef) HT.out World.grows.refl⟩
  | some e =>
    rw [hat] at hlk
    simp only at hlk
    obtain ⟨he, rfl⟩ := findE_some hat
    obtain ⟨hrow, hks, hats⟩ := h.els e he
    obtain ⟨ka, kc, ek⟩ := own_slice hks
    obtain ⟨aa, ac, ea⟩ := own_slice hats
    unfold elC at hrow
    rw [ek, ea] at hrow
    rw [ea] at hats
    have zr := row_sz' hrow
    have hew := h.elWf e he
    have h16 := hew.2.2.2.2.2.2.1
    have hup := hu e he
    have HT := Lib.hid h; have HE := Lib.hid he; have HU := Lib.hid hup
    have HPL := Lib.hid (place_any w (L.bl e.id) _ _ _ _ _ _ _ _ _ _ aa ac e.at' n hrow (at_slat hats) hup (by omega))
    have hall := hasA_all hup n
    cases hh : hasA e.at' n with
    | false =>
      rw [hh] at HPL hall
      have q : M.unset e.id n = (10, M) := by unfold Dm.unset; rw [hat]; simp only; rw [if_pos (by rw [hall]; rfl)]
      rw [q]
      clear h he hu q hat hup hew hks hats hall hh
      go_enter Tryz.func33, Tryz.ntmps33
      go_wp2_with (go_at_call 53; (with_reducible refine (HPL.out).mono ?_); rintro e w1 ⟨rfl, x1, rfl⟩)
      go_ret
      exact ⟨rfl, Edit.no (v := undef) HT.out (by repeat (with_reducible first | assumption | exact grA | apply grB | apply grC | apply grD | refine grE ?_ (by omega) _ | refine grF ?_ (by omega) _ _))⟩
    | true =>
      rw [hh] at HPL hall
      have q : M.unset e.id n = (0, ⟨M.root, M.next, updE M.els e.id fun e => { e with at' := e.at'.filter fun x => decide (x.1 ≠ n) }⟩) := by unfold Dm.unset; rw [hat]; simp only; rw [if_neg (by rw [hall]; simp)]
      rw [q]
      obtain ⟨x, hx0, hxn⟩ := hasA_at hh
      have hpl : posA e.at' n < e.at'.length := (List.getElem?_eq_some_iff.1 hx0).1
      have hrem := remA_has hup hh
      obtain ⟨s0, s1, s2, s3, s4⟩ := h.self he
      obtain ⟨g, rfl⟩ : ∃ g, aa = some ⟨g, 0, none⟩ := by
        rcases hats.2 with ⟨h0, h1⟩ | ⟨g, _, _, h0, _⟩
        · omega
        · injection h0 with h0; exact ⟨g, h0⟩
      have HW := Lib.hid (h.wf.upd e.id (fun e => { e with at' := e.at'.filter fun x => decide (x.1 ≠ n) }) (fun _ => rfl) (fun _ => rfl) (fun _ => rfl))
      have HEW := Lib.hid hew
      have HR := Lib.hid hrem
      have HAT := Lib.hid hats
      clear h he hu q hat hup hew hks hats hall hh hx0 hxn hrem
      have hpi : ((posA e.at' n : Nat) : Int) < 20 := by omega
      generalize posA e.at' n = p at *
      go_enter Tryz.func33, Tryz.ntmps33
      go_upto_region 7 with (go_at_call 53; (with_reducible refine (HPL.out).mono ?_); rintro e w1 ⟨rfl, x1, rfl⟩)
      have hg1 : w.grows (w.plus x1) := (by repeat (with_reducible first | assumption | exact grA | apply grB | apply grC | apply grD | refine grE ?_ (by omega) _ | refine grF ?_ (by omega) _ _))
      generalize w.plus x1 = w1 at *
      have hT1 := HT.out.grows hg1
      have hrow1 : w1.row (L.bl e.id) = _ := (hg1.row_eq zr.1).trans hrow
      have zr1 := row_sz' hrow1
      have hat1 := HAT.out.grows hg1
      have HD := Lib.hid (delA_any w1 0 g e.at'.length ac p (atC e.at') hat1 hpl (by omega) (at_one _))
      have HT1 := Lib.hid hT1
      have HAT1 := Lib.hid hat1
      clear hT1 hat1 HPL hlk hx zx hrow zr
      go_wp2_with (go_at_call 55; go_loud ((with_reducible refine HD.out.mono ?_); rintro r w7 ⟨rfl, ho7, hg7⟩); (have hrow7 : w7.row (L.bl e.id) = _ := World.row_grown hg7 hrow1 (fun hh => (s4 _ (by rw [ea]; exact hh.symm)).2.2.1 rfl)); (have zr7 := row_sz' hrow7))
      go_ret
      refine ⟨rfl, TreeAt.edit1 hg1 HT1.out HE.out (kv := .slice ka e.ks.length kc) (av := .slice (some ⟨g, 0, none⟩) (e.at'.length - 1) ac) _ (fun _ => rfl) ?_ ?_ ?_ ?_ ?_ ?_ ?_ HW.out ?_⟩
      · exact ⟨fun g hg => .inl (by rw [ek]; exact hg), fun g hg => .inl (by rw [ea]; exact hg), fun g' hg hl _ => by have := HT1.out.ltK HE.out (g := g') (by rw [ek]; exact hg); omega⟩
      · rw [World.row_setCell, if_pos rfl, hrow7]; rfl
      · have hk := (HT1.out.els e HE.out).2.1
        rw [ek] at hk
        refine ownsRow_row hk fun g' hg' => ?_
        have q := s3 g' (by rw [ek]; exact hg')
        rw [World.row_setCell, if_neg q.2.2.1]
        exact World.row_grow hg7 (hk.lt g' hg').2 (fun hh => q.2.2.2 (by rw [ea]; exact hh.symm))
      · have e1 : atC (e.at'.filter fun x => decide (x.1 ≠ n)) = (atC e.at').take (p * 2) ++ (atC e.at').drop ((p + 1) * 2) := by rw [HR.out, atC_app, atC_take, atC_drop]
        have e2 : (e.at'.filter fun x => decide (x.1 ≠ n)).length = e.at'.length - 1 := by rw [HR.out]; simp; omega
        show World.ownsRow _ 0 _ 2 _ (e.at'.filter fun x => decide (x.1 ≠ n)).length (atC (e.at'.filter fun x => decide (x.1 ≠ n)))
        rw [e1, e2]
        exact ownsRow_row ho7 fun g' hg' => by
          rw [World.row_setCell, if_neg (s4 g' (by rw [ea]; exact hg')).2.2.1]
      · intro k hk h1 h2 h3
        rw [World.row_setCell, if_neg h1]
        exact World.row_grow hg7 hk (fun hh => h3 (by rw [ea]; exact hh.symm))
      · have := hg7.size
        rw [World.setCell_size' _ _ _]; exact this
      · intro w00 a1 a2
        exact (World.grows.grown a2 hg7 (fun k hk => a1 k (.inr (.inr ⟨e, HE.out, .inr (.inr (by rw [ea]; exact hk))⟩)))).setCell' (a1 _ (.inr (.inr ⟨e, HE.out, .inl rfl⟩))) _ _
      · have hw := HEW.out
        refine ⟨hw.1, hw.2.1, hw.2.2.1, hw.2.2.2.1, fun x hx => hw.2.2.2.2.1 x (List.mem_filter.1 hx).1, hw.2.2.2.2.2.1, Nat.le_trans (List.length_filter_le _ _) hw.2.2.2.2.2.2.1, hw.2.2.2.2.2.2.2⟩

set_option maxRecDepth 100000 in
set_option maxHeartbeats 8000000 in
theorem domSet_any (w : World) (L : Ly) (M : Dm) (h : TreeAt w L M) (hu : M.Ups) (id : Int) (n v : ByteArray) (hi : I64 id) (hn : n.size ≤ maxLen) (hv : v.size ≤ maxLen) :
    Calls Tryz.prog 32 #[.pointer (some ⟨L.t, 0, none⟩), .int .i64 id, .string n, .string v] w (Edit w L M (M.set id n v).2 (.int .i64 (M.set id n v).1)) := by
  have hx := h.head
  have zx := row_sz' hx
  have hlk := h.look id hi
  have hm := fun W => mayName_any n W hn
  unfold mvOf at hlk
  cases hat : M.at id with
  | none =>
    rw [hat] at hlk
    simp only at hlk
    have e : M.set id n v = (5, M) := by unfold Dm.set; rw [hat]
    rw [e]
    have HT := Lib.hid h
    clear h e hat hm
    go_enter Tryz.func32, Tryz.ntmps32
    go_wp2_with fail
    go_ret
    exact ⟨rfl, Edit.no (v := undef) HT.out World.grows.refl⟩
  | some e =>
    rw [hat] at hlk
    simp only at hlk
    obtain ⟨he, rfl⟩ := findE_some hat
    obtain ⟨hrow, hks, hats⟩ := h.els e he
    obtain ⟨ka, kc, ek⟩ := own_slice hks
    obtain ⟨aa, ac, ea⟩ := own_slice hats
    unfold elC at hrow
    rw [ek, ea] at hrow
    rw [ea] at hats
    have zr := row_sz' hrow
    have hew := h.elWf e he
    have h16 := hew.2.2.2.2.2.2.1
    have hup := hu e he
    have HT := Lib.hid h; have HE := Lib.hid he; have HU := Lib.hid hup
    cases hnm : nameB n.data.toList with
    | false =>
      rw [hnm] at hm
      have q : M.set e.id n v = (10, M) := by unfold Dm.set; rw [hat]; simp only; rw [if_pos hnm]
      rw [q]
      have HM := Lib.hid hm
      clear h he hu q hat hup hew hks hats hnm hm
      go_enter Tryz.func32, Tryz.ntmps32
      go_wp2_with (go_at_call 40; (with_reducible refine (HM.out _).mono ?_); rintro e w1 ⟨rfl, x1, rfl⟩)
      go_ret
      exact ⟨rfl, Edit.no (v := undef) HT.out (by repeat (with_reducible first | assumption | exact grA | apply grB | apply grC | apply grD | refine grE ?_ (by omega) _ | refine grF ?_ (by omega) _ _))⟩
    | true =>
      rw [hnm] at hm
      have HM := Lib.hid hm
      have hnt : ¬ nameB n.data.toList = false := by rw [hnm]; decide
      by_cases hvl : 256 < v.size
      · have q : M.set e.id n v = (2, M) := by unfold Dm.set; rw [hat]; simp only; rw [if_neg hnt, if_pos hvl]
        rw [q]
        have hvI : (256 : Int) < (v.size : Int) := by omega
        clear h he hu q hat hup hew hks hats hnm hm hnt
        go_enter Tryz.func32, Tryz.ntmps32
        go_wp2_with (go_at_call 40; (with_reducible refine (HM.out _).mono ?_); rintro e w1 ⟨rfl, x1, rfl⟩)
        go_ret
        exact ⟨rfl, Edit.no (v := undef) HT.out (by repeat (with_reducible first | assumption | exact grA | apply grB | apply grC | apply grD | refine grE ?_ (by omega) _ | refine grF ?_ (by omega) _ _))⟩
      · have hvI : ¬ (256 : Int) < (v.size : Int) := by omega
        obtain ⟨s0, s1, s2, s3, s4⟩ := h.self he
        have HPL := Lib.hid (fun (W : World) (hW : w.grows W) => place_any W (L.bl e.id) _ _ _ _ _ _ _ _ _ _ aa ac e.at' n ((hW.row_eq zr.1).trans hrow) (at_slat (hats.grows hW)) hup (by omega))
        have HW := Lib.hid (h.wf.upd e.id (fun e => { e with at' := putA e.at' n v }) (fun _ => rfl) (fun _ => rfl) (fun _ => rfl))
        have HEW := Lib.hid hew
        have HAT := Lib.hid hats
        have hpl := posA_le e.at' n
        have fin : (putA e.at' n v).length ≤ 16 → M.set e.id n v = (0, ⟨M.root, M.next, updE M.els e.id fun e => { e with at' := putA e.at' n v }⟩) := fun hl => by
          unfold Dm.set; rw [hat]; simp only; rw [if_neg hnt, if_neg hvl, if_neg (by omega)]
        have elw : (putA e.at' n v).length ≤ 16 → El.Wf { e with at' := putA e.at' n v } := fun hl => by
          have hw := hew
          refine ⟨hw.1, hw.2.1, hw.2.2.1, hw.2.2.2.1, fun x hx => ?_, hw.2.2.2.2.2.1, hl, hw.2.2.2.2.2.2.2⟩
          rcases putA_mem hx with rfl | hx
          · exact ⟨hn, hv⟩
          · exact hw.2.2.2.2.1 x hx
        cases hh : hasA e.at' n with
        | true =>
          rw [hh] at HPL
          obtain ⟨x, hx0, hxn⟩ := hasA_at hh
          have hplt : posA e.at' n < e.at'.length := (List.getElem?_eq_some_iff.1 hx0).1
          have hput := putA_has hh v
          have hlen : (putA e.at' n v).length = e.at'.length := by rw [hput]; simp; omega
          rw [fin (by omega)]
          have HEW2 := Lib.hid (elw (by omega))
          have HPUT := Lib.hid hput
          have HXN := Lib.hid (show ∃ A B : List (ByteArray × ByteArray), e.at' = A ++ x :: B ∧ A.length = posA e.at' n from ⟨e.at'.take (posA e.at' n), e.at'.drop (posA e.at' n + 1), by
            have := List.drop_eq_getElem_cons hplt
            rw [(List.getElem?_eq_some_iff.1 hx0).2] at this
            rw [← this, List.take_append_drop], by simp; omega⟩)
          obtain ⟨g, rfl⟩ : ∃ g, aa = some ⟨g, 0, none⟩ := by
            rcases hats.2 with ⟨h0, h1⟩ | ⟨g, _, _, h0, _⟩
            · omega
            · injection h0 with h0; exact ⟨g, h0⟩
          have hcell : ∀ j u, (atC e.at')[j]? = some u → w.cell? ⟨g, j, none⟩ = some u := fun j u hj => by
            have := hats.cells (g := g) rfl j u hj
            rwa [Addr.add_lit, Nat.zero_add] at this
          have hfz : ∀ i, w.frozen? ⟨g, i, none⟩ = false := by
            rcases hats.2 with ⟨h0, _⟩ | ⟨g', _, _, h0, _, hgg, _⟩
            · cases h0
            · injection h0 with h0; injection h0 with h0; injection h0 with h0; subst h0
              exact fun i => row_unfrozen (show w.row g = _ from hgg) i
          have hgl := (hats.lt g rfl).2
          obtain ⟨u1, hu1⟩ : ∃ u, (atC e.at')[posA e.at' n * 2 + 1]? = some u := ⟨_, List.getElem?_eq_getElem (by rw [atC_len]; omega)⟩
          have hc1 := hcell _ _ hu1
          have hf1 := hfz (posA e.at' n * 2 + 1)
          clear hat fin elw hput hh hx0 hu1 hcell hfz hks hats hew hup he h hu hm hnm hnt hlen
          have hpi : ((posA e.at' n : Nat) : Int) < (e.at'.length : Int) := by omega
          generalize posA e.at' n = p at *
          go_enter Tryz.func32, Tryz.ntmps32
          go_upto_region 8 with (go_at_call 40; (with_reducible refine (HM.out _).mono ?_); rintro e w1 ⟨rfl, x1, rfl⟩)
          have hg0 : w.grows (w.plus x1) := (by repeat (with_reducible first | assumption | exact grA | apply grB | apply grC | apply grD | refine grE ?_ (by omega) _ | refine grF ?_ (by omega) _ _))
          generalize w.plus x1 = w0 at *
          go_upto_region 10 with (go_at_call 53; (with_reducible refine (HPL.out w0 hg0).mono ?_); rintro e w1 ⟨rfl, x1, rfl⟩)
          have hg1 : w.grows (w0.plus x1) := (by repeat (with_reducible first | assumption | exact grA | apply grB | apply grC | apply grD | refine grE ?_ (by omega) _ | refine grF ?_ (by omega) _ _))
          generalize w0.plus x1 = w1 at *
          have hT1 := HT.out.grows hg1
          have hrow1 : w1.row (L.bl e.id) = _ := (hg1.row_eq zr.1).trans hrow
          have zr1 := row_sz' hrow1
          have hat1 := HAT.out.grows hg1
          have hc1' := hg1.cell_eq hc1
          have hf1' : w1.frozen? ⟨g, p * 2 + 1, none⟩ = false := by
            rw [World.frozen?_row, hg1.row_eq hgl, ← World.frozen?_row]; exact hf1
          have HT1 := Lib.hid hT1
          have HAT1 := Lib.hid hat1
          rw [World.cell?_row] at hc1'
          rw [World.frozen?_row] at hf1'
          clear hT1 hat1 HPL hlk hx zx hrow zr hc1 hf1
          go_wp2_with fail
          go_ret
          refine ⟨rfl, TreeAt.edit1 hg1 HT1.out HE.out (kv := .slice ka e.ks.length kc) (av := .slice (some ⟨g, 0, none⟩) e.at'.length ac) _ (fun _ => rfl) ?_ ?_ ?_ ?_ ?_ ?_ ?_ HW.out HEW2.out⟩
          · exact ⟨fun g hg => .inl (by rw [ek]; exact hg), fun g hg => .inl (by rw [ea]; exact hg), fun g' hg hl _ => by have := HT1.out.ltK HE.out (g := g') (by rw [ek]; exact hg); omega⟩
          · rw [World.row_setCell, if_neg (fun hh => (s4 g (by rw [ea]; rfl)).2.2.1 hh.symm), hrow1]
          · have hk := (HT1.out.els e HE.out).2.1
            rw [ek] at hk
            refine ownsRow_row hk fun g' hg' => ?_
            have q := s3 g' (by rw [ek]; exact hg')
            rw [World.row_setCell, if_neg (fun hh => q.2.2.2 (by rw [ea, hh]; rfl))]
          · have hos := own_set (W := w1) (u := .string v) (o := p * 2 + 1) HAT1.out (by omega) rfl
            obtain ⟨A, B, hAB, hAl⟩ := HXN.out
            have e1 : (atC e.at').set (p * 2 + 1) (.string v) = atC (putA e.at' n v) := by
              rw [HPUT.out, hAB, ← hAl]
              rw [List.take_left, show (A ++ x :: B).drop (A.length + 1) = B by rw [← List.drop_drop, List.drop_left]; rfl]
              rw [atC_app, atC_app, ← atC_len A]
              rw [List.set_append_right _ _ (by omega), Nat.add_sub_cancel_left]
              show atC A ++ ([Value.string x.1, Value.string x.2] ++ atC B).set 1 _ = atC A ++ ([Value.string n, Value.string v] ++ atC B)
              rw [← hxn]; rfl
            have e2 : (putA e.at' n v).length = e.at'.length := by
              rw [HPUT.out]; simp; omega
            show World.ownsRow _ 0 _ 2 _ (putA e.at' n v).length (atC (putA e.at' n v))
            rw [e2, ← e1]; exact hos
          · intro k hk h1 h2 h3
            rw [World.row_setCell, if_neg (fun hh => h3 (by rw [ea, hh]; rfl))]
          · rw [World.setCell_size' _ _ _]; exact Nat.le_refl _
          · intro w00 a1 a2
            exact a2.setCell' (a1 _ (.inr (.inr ⟨e, HE.out, .inr (.inr (by rw [ea]; rfl))⟩))) _ _
        | false =>
          rw [hh] at HPL
          have hput := putA_no hh v
          have hlen : (putA e.at' n v).length = e.at'.length + 1 := by rw [hput]; simp; omega
          by_cases hfl : 16 ≤ e.at'.length
          · have q : M.set e.id n v = (6, M) := by unfold Dm.set; rw [hat]; simp only; rw [if_neg hnt, if_neg hvl, if_pos (by omega)]
            rw [q]
            have hfI : (16 : Int) ≤ (e.at'.length : Int) := by omega
            clear h he hu q hat hup hew hks hats hnm hm hnt fin elw hput hlen hh HEW
            generalize posA e.at' n = p at *
            go_enter Tryz.func32, Tryz.ntmps32
            go_upto_region 8 with (go_at_call 40; (with_reducible refine (HM.out _).mono ?_); rintro e w1 ⟨rfl, x1, rfl⟩)
            have hg0 : w.grows (w.plus x1) := (by repeat (with_reducible first | assumption | exact grA | apply grB | apply grC | apply grD | refine grE ?_ (by omega) _ | refine grF ?_ (by omega) _ _))
            generalize w.plus x1 = w0 at *
            have hrow0 : w0.row (L.bl e.id) = _ := (hg0.row_eq zr.1).trans hrow
            have zr0 := row_sz' hrow0
            go_wp2_with (go_at_call 53; (with_reducible refine (HPL.out w0 hg0).mono ?_); rintro e w1 ⟨rfl, x1, rfl⟩)
            go_ret
            exact ⟨rfl, Edit.no (v := undef) HT.out (by repeat (with_reducible first | assumption | exact grA | apply grB | apply grC | apply grD | refine grE ?_ (by omega) _ | refine grF ?_ (by omega) _ _))⟩
          · have hfI : ¬ (16 : Int) ≤ (e.at'.length : Int) := by omega
            rw [fin (by omega)]
            have HEW2 := Lib.hid (elw (by omega))
            have HPUT := Lib.hid hput
            have HLEN := Lib.hid hlen
            clear hat fin elw hput hh hks hats hew hup he h hu hm hnm hnt hlen
            have hpi : ((posA e.at' n : Nat) : Int) ≤ (e.at'.length : Int) := by omega
            generalize posA e.at' n = p at *
            go_enter Tryz.func32, Tryz.ntmps32
            go_upto_region 8 with (go_at_call 40; (with_reducible refine (HM.out _).mono ?_); rintro e w1 ⟨rfl, x1, rfl⟩)
            have hg0 : w.grows (w.plus x1) := (by repeat (with_reducible first | assumption | exact grA | apply grB | apply grC | apply grD | refine grE ?_ (by omega) _ | refine grF ?_ (by omega) _ _))
            generalize w.plus x1 = w0 at *
            have hrow0 : w0.row (L.bl e.id) = _ := (hg0.row_eq zr.1).trans hrow
            have zr0 := row_sz' hrow0
            go_upto_region 14 with (go_at_call 53; (with_reducible refine (HPL.out w0 hg0).mono ?_); rintro e w1 ⟨rfl, x1, rfl⟩)
            have hg1 : w.grows (w0.plus x1) := (by repeat (with_reducible first | assumption | exact grA | apply grB | apply grC | apply grD | refine grE ?_ (by omega) _ | refine grF ?_ (by omega) _ _))
            generalize w0.plus x1 = w1 at *
            have hT1 := HT.out.grows hg1
            have hrow1 : w1.row (L.bl e.id) = _ := (hg1.row_eq zr.1).trans hrow
            have zr1 := row_sz' hrow1
            have hat1 := HAT.out.grows hg1
            have hne1 : (Value.slice aa e.at'.length ac).ownBlock ≠ some w1.heap.size := fun hh => by have := (hat1.lt _ hh).2; omega
            have HI := Lib.hid (insA_any (w1.alloc (.cells #[.string n, .string v] 71)) 0 (.slice aa e.at'.length ac) e.at'.length p w1.heap.size 71 (atC e.at') [.string n, .string v] (hat1.grows (by repeat (with_reducible first | assumption | exact grA | apply grB | apply grC | apply grD | refine grE ?_ (by omega) _ | refine grF ?_ (by omega) _ _))) (Nat.zero_le _) hpl (by omega) rfl (by simp [go_sem]) hne1 (at_one _) (by simp [Value.oneCell']))
            have HT1 := Lib.hid hT1
            have HAT1 := Lib.hid hat1
            clear hT1 hat1 HPL hlk hx zx hrow zr hrow0 zr0
            go_wp2_with (go_at_call 54; go_loud ((with_reducible refine HI.out.mono ?_); rintro r w7 ⟨v', rfl, ho7, hg7, hA7⟩); obtain ⟨a7, c7, rfl⟩ := own_slice ho7; (have hrow7 : w7.row (L.bl e.id) = _ := World.row_grown hg7 ((World.grows.row_eq (World.grows.alloc World.grows.refl _) zr1.1).trans hrow1) (fun hh => (s4 _ (by rw [ea]; exact hh.symm)).2.2.1 rfl)); (have zr7 := row_sz' hrow7))
            go_ret
            have hs6 : (w1.alloc (.cells #[.string n, .string v] 71)).heap.size = w1.heap.size + 1 := by simp
            have hs7 := hg7.size
            have r7 : ∀ k, k < w1.heap.size → (L.av e.id).ownBlock ≠ some k → w7.row k = w1.row k := fun k hk hn => by
              rw [World.row_grow hg7 (by rw [hs6]; omega) (fun hh => hn (by rw [ea]; exact hh.symm))]
              exact World.grows.row_eq (World.grows.alloc World.grows.refl _) hk
            have hn7 : Anew w1 L e (.slice ka e.ks.length kc) (.slice a7 (e.at'.length + 1) c7) := by
              refine ⟨fun g hg => .inl (by rw [ek]; exact hg), fun g hg => ?_, fun g hg hl _ => ?_⟩
              · rcases hA7 with hA | hA
                · exact .inl (by rw [ea, ← hA]; exact hg)
                · rw [hg] at hA; injection hA with hA; exact .inr (by omega)
              · have := HT1.out.ltK HE.out (g := g) (by rw [ek]; exact hg); omega
            have hkne : ∀ g, (Value.slice a7 (e.at'.length + 1) c7).ownBlock = some g → g ≠ L.bl e.id := fun g hg hh => by
              rcases hn7.a g hg with h | h
              · exact (s4 g h).2.2.1 hh
              · have := HT1.out.ltB HE.out; omega
            refine ⟨rfl, TreeAt.edit1 hg1 HT1.out HE.out (kv := .slice ka e.ks.length kc) (av := .slice a7 (e.at'.length + 1) c7) _ (fun _ => rfl) hn7 ?_ ?_ ?_ ?_ ?_ ?_ HW.out HEW2.out⟩
            · rw [World.row_setCell, if_pos rfl, hrow7]; rfl
            · have hk := (HT1.out.els e HE.out).2.1
              rw [ek] at hk
              refine ownsRow_row hk fun g' hg' => ?_
              have q := s3 g' (by rw [ek]; exact hg')
              rw [World.row_setCell, if_neg q.2.2.1]
              exact r7 g' (hk.lt g' hg').2 q.2.2.2
            · have e1 : atC (putA e.at' n v) = (atC e.at').take (p * 2) ++ [.string n, .string v] ++ (atC e.at').drop (p * 2) := by
                rw [HPUT.out, atC_app, atC_take, atC_drop, List.append_assoc]; rfl
              show World.ownsRow _ 0 _ 2 _ (putA e.at' n v).length (atC (putA e.at' n v))
              rw [HLEN.out, e1]
              exact ownsRow_row ho7 fun g' hg' => by rw [World.row_setCell, if_neg (hkne g' hg')]
            · intro k hk h1 h2 h3
              rw [World.row_setCell, if_neg h1]
              exact r7 k hk h3
            · rw [World.setCell_size' _ _ _]; omega
            · intro w00 a1 a2
              have q2 : w00.grows (w1.alloc (.cells #[.string n, .string v] 71)) := World.grows.alloc a2 _
              exact (World.grows.grown q2 hg7 (fun k hk => a1 k (.inr (.inr ⟨e, HE.out, .inr (.inr (by rw [ea]; exact hk))⟩)))).setCell' (a1 _ (.inr (.inr ⟨e, HE.out, .inl rfl⟩))) _ _
end Go.Proofs.YtdbddnkjiehaiaaGreat

/- WALK over dom: Remove. No condition but that a tree stands in memory. -/
namespace Go.Proofs.YtdbddnkjiehaiaaGreat
open Go.Maps Go.RowKit Go.Sort
/-- the map while numbers are struck from it -/
def RemSt (w wj : World) (L : Ly) (c : Nat) (D0 : DataW Value) (B : List Int) : Prop := w.grownBy wj (some L.mb) ∧ ∃ D, wj.ownsMap Tryz.prog 3 heldP L.mb c D ∧ (∀ i, has D (.int .i64 i) = (has D0 (.int .i64 i) && decide (i ∉ B))) ∧ (∀ i, i ∉ B → D.atKey (.int .i64 i) nilP = D0.atKey (.int .i64 i) nilP) ∧ (∀ i, i ∈ B → D.atKey (.int .i64 i) nilP = nilP) ∧ Maps.size D + B.length = Maps.size D0
theorem RemSt.del {w wj w' : World} {L : Ly} {c : Nat} {D0 D : DataW Value} {B : List Int} {k : Int} (hg : w.grownBy wj (some L.mb)) (hown : wj.ownsMap Tryz.prog 3 heldP L.mb c D) (h1 : ∀ i, has D (.int .i64 i) = (has D0 (.int .i64 i) && decide (i ∉ B))) (h2 : ∀ i, i ∉ B → D.atKey (.int .i64 i) nilP = D0.atKey (.int .i64 i) nilP) (h3 : ∀ i, i ∈ B → D.atKey (.int .i64 i) nilP = nilP) (h4 : Maps.size D + B.length = Maps.size D0)
    (hk : k ∉ B) (hk0 : has D0 (.int .i64 k) = true) (hown' : w'.ownsMap Tryz.prog 3 heldP L.mb c (D.del (.int .i64 k))) (ht : wj.mapTurned w' L.mb) : RemSt w w' L c D0 (B ++ [k]) := by
  have ne : ∀ {i : Int}, i ≠ k → (Lit.int .i64 i) ≠ .int .i64 k := fun hi x => hi (by injection x)
  refine ⟨hg.trans ht.grown, _, hown', fun i => ?_, fun i hi => ?_, fun i hi => ?_, ?_⟩
  · by_cases hi : i = k
    · subst hi; rw [has_del_same]; simp
    · rw [has_del_other (ne hi), h1]; simp [hi]
  · have hi1 : i ∉ B := fun h => hi (by simp [h])
    have hi2 : i ≠ k := fun h => hi (by simp [h])
    rw [atKey_del_other (ne hi2), h2 i hi1]
  · by_cases hik : i = k
    · subst hik; rw [atKey_del_same]
    · rw [atKey_del_other (ne hik), h3 i (by simpa [hik] using hi)]
  · have := size_del (hown.tidy (int_keyed Tryz.underlying3)) (k := .int .i64 k)
    rw [h1 k, hk0] at this
    simp [hk] at this
    simp only [List.length_append, List.length_singleton]; omega
/-- the tree that is left -/
theorem RemSt.tree {w wj : World} {L : Ly} {M : Dm} {c : Nat} {D0 : DataW Value} {B : List Int} (h : TreeAt w L M) (hcn : (c : Int) ≤ M.next) (hmp : MapP D0 (mvOf L M)) (hhas : ∀ i, has D0 (.int .i64 i) = (M.at i).isSome) (hsz : Maps.size D0 = M.els.length) (hr : RemSt w wj L c D0 B) (hB : B.Nodup) (hs : ∀ x ∈ B, ∃ f ∈ M.els, f.id = x) (hwf : Dm.Wf ⟨M.root, M.next, M.els.filter fun f => decide (f.id ∉ B)⟩) :
    Chg (L.own M.els) w (L.own (M.els.filter fun f => decide (f.id ∉ B))) wj ∧ TreeAt wj L ⟨M.root, M.next, M.els.filter fun f => decide (f.id ∉ B)⟩ := by
  obtain ⟨hg, D, hown, h1, h2, h3, h4⟩ := hr
  have sub : ∀ k, L.own (M.els.filter fun f => decide (f.id ∉ B)) k → L.own M.els k := fun k hk => by
    rcases hk with rfl | rfl | ⟨e, he, hk⟩
    · exact .inl rfl
    · exact .inr (.inl rfl)
    · exact .inr (.inr ⟨e, (List.mem_filter.1 he).1, hk⟩)
  obtain ⟨t1, t2, t3⟩ := h.ok
  have rw' : ∀ k, k < w.heap.size → k ≠ L.mb → wj.row k = w.row k := fun k hk hne => World.row_grow hg hk (fun hh => by injection hh with hh; exact hne hh)
  refine ⟨⟨fun k hk => .inl (sub k hk), fun k hk hl => rw' k hl (fun e => hk (.inr (.inl e))), hg.size, fun w00 a1 a2 => World.grows.grown a2 hg (fun k hk => by cases hk; exact a1 _ (.inr (.inl rfl)))⟩, ?_⟩
  refine ⟨(rw' _ (h.lt (.inl rfl)) (fun e => by rw [e, t2] at t1; cases t1)).trans h.head, ⟨c, D, hcn, hown, ⟨hown.tidy (int_keyed Tryz.underlying3) |>.isMap, fun i => ?_⟩, fun i => ?_, ?_⟩, fun e he => ?_, ⟨t1, t2, fun e he => t3 e (List.mem_filter.1 he).1⟩, hwf, fun e he => h.elWf e (List.mem_filter.1 he).1⟩
  · unfold mvOf Dm.at
    rw [findE_filter h.wf.up]
    by_cases hi : i ∈ B
    · rw [h3 i hi, if_pos hi]; rfl
    · rw [h2 i hi, if_neg hi, hmp.2 i]; rfl
  · rw [h1 i, hhas i]
    unfold Dm.at
    rw [findE_filter h.wf.up]
    by_cases hi : i ∈ B
    · rw [if_pos hi]; simp [hi]
    · rw [if_neg hi]; simp [hi]
  · have := filter_len h.wf.up hB hs
    show Maps.size D = (M.els.filter fun f => decide (f.id ∉ B)).length
    omega
  · have hm := (List.mem_filter.1 he).1
    obtain ⟨q1, q2, q3⟩ := h.els e hm
    obtain ⟨s0, s1, s2, s3, s4⟩ := h.self hm
    exact ⟨(rw' _ (h.ltB hm) s2).trans q1, ownsRow_row q2 fun g hg => rw' g (q2.lt g hg).2 (s3 g hg).2.1, ownsRow_row q3 fun g hg => rw' g (q3.lt g hg).2 (s4 g hg).2.1⟩

set_option maxRecDepth 100000 in
set_option maxHeartbeats 8000000 in
theorem domRem_ok (w : World) (L : Ly) (M : Dm) (h : TreeAt w L M) (hp : M.Par) {e : El} (he : e ∈ M.els) (hr : e.id ≠ M.root) :
    Calls Tryz.prog 31 #[.pointer (some ⟨L.t, 0, none⟩), .int .i64 e.id] w (Edit w L M ⟨M.root, M.next, (updE M.els e.p (remE e.id)).filter fun f => decide (f.id ∉ M.below 32 e.id)⟩ (.int .i64 0)) := by
  obtain ⟨pe, hpe, hpid, hpk⟩ := hp e he hr
  have hx := h.head
  have zx := row_sz' hx
  have hlk := h.look e.id (h.elWf e he).1
  have hat : M.at e.id = some e := findE_of h.wf.up he
  unfold mvOf at hlk
  rw [hat] at hlk
  simp only at hlk
  have hlk2 := (h.grows (World.grows.drew World.grows.refl)).look pe.id (h.elWf pe hpe).1
  have hat2 : M.at pe.id = some pe := findE_of h.wf.up hpe
  unfold mvOf at hlk2
  rw [hat2, hpid] at hlk2
  simp only at hlk2
  have hrow := (h.els e he).1
  have zr := row_sz' hrow
  obtain ⟨hrowp, hks, hats⟩ := h.els pe hpe
  obtain ⟨ka, kc, ek⟩ := own_slice hks
  obtain ⟨aa, ac, ea⟩ := own_slice hats
  unfold elC at hrowp
  rw [ek, ea] at hrowp
  rw [ek] at hks
  have zrp := row_sz' hrowp
  obtain ⟨k, hk1, hk2, hk3⟩ := idxOf_mem hpk
  obtain ⟨g, rfl⟩ : ∃ g, ka = some ⟨g, 0, none⟩ := by
    rcases hks.2 with ⟨h0, h1⟩ | ⟨g, _, _, h0, _⟩
    · omega
    · injection h0 with h0; exact ⟨g, h0⟩
  have hkl := (h.elWf pe hpe).2.2.2.2.2.2.2
  have hcell : ∀ j, j < pe.ks.length → w.cell? ⟨g, 0 + j, none⟩ = some (.int .i64 (pe.ks.getD j 0)) := fun j hj => by
    have := hks.cells (g := g) rfl j (.int .i64 (pe.ks.getD j 0)) (by rw [List.getElem?_map, List.getElem?_eq_getElem hj, List.getD_eq_getElem?_getD, List.getElem?_eq_getElem hj]; rfl)
    rwa [Addr.add_lit] at this
  have hix := fun (W : World) (hW : w.grows W) => Tryz.slices_Index_int g 0 pe.ks.length kc pe.ks e.id W (Nat.le_refl _) (by omega) (fun j hj => hW.cell_eq (hcell j hj))
  rw [List.take_length, hk2] at hix
  have HIX := Lib.hid hix
  obtain ⟨s0, s1, s2, s3, s4⟩ := h.self hpe
  have HT := Lib.hid h; have HP := Lib.hid hp; have HE := Lib.hid he; have HPE := Lib.hid hpe; have HKS := Lib.hid hks
  have HF := Lib.hid (filter_at (h.wf.once pe hpe) hk3)
  have hrb : ¬ ((e.id == M.root) = true) := by simpa using hr
  have hkI : ((k : Nat) : Int) < 1000 := by omega
  rw [hpid] at hrowp zrp
  have HBN : Hid ((M.below 32 e.id).Nodup ∧ (∀ x ∈ M.below 32 e.id, ∃ f ∈ M.els, f.id = x) ∧ Dm.below ⟨M.root, M.next, updE M.els e.p (remE e.id)⟩ 32 e.id = M.below 32 e.id) := by
    obtain ⟨dep, d1, d2, d3⟩ := h.wf.dep
    refine Lib.hid ⟨Dm.below_once h.wf d2 32 e he, fun x hx => (Dm.below_up h.wf d2 32 e he x hx).1, Dm.below_mid h.wf d2 e.p (remE e.id) (fun _ => rfl) 32 e he (by rw [d2 e he hr]; omega)⟩
  have HWF := Lib.hid (Dm.rem_wf h.wf hp he hr).1
  have HMW := Lib.hid (Dm.mid_wf h.wf e.p e.id)
  have hidI := (h.elWf e he).1
  have hlt2 : pe.ks.length - 1 + 1 = pe.ks.length := by omega
  clear h hp he hpe hks hats hat hat2 hix hcell hk2 hk3 hpk
  go_enter Tryz.func31, Tryz.ntmps31
  go_wp2_with fail
  go_region
  go_upto_region 7 with fail
  refine wp_region_seq_tail (S := fun W => W.row (L.bl e.p) = some (.cells #[.int .i64 e.p, .int .i64 pe.p, .string pe.tag, .slice (some ⟨g, 0, none⟩) pe.ks.length kc, .slice aa pe.at'.length ac, .int .i64 pe.bx.ty, .string pe.bx.nm, .int .i64 pe.bx.a, .int .i64 pe.bx.b, .int .i64 pe.bx.c, .int .i64 pe.bx.d] 49) ∧ True) 21 (by kernel_rfl) (by kernel_rfl) ⟨hrowp, trivial⟩ ?_
  simp only [List.take_succ_cons, List.take_zero, List.drop_succ_cons, List.drop_zero]
  show wpSeqL _ _ _ _ _ _ (World.drew (World.drew w))
  have hdd : w.grows (World.drew (World.drew w)) := World.grows.drew (World.grows.drew World.grows.refl)
  have hrd : (World.drew (World.drew w)).row (L.bl e.p) = _ := hrowp
  have HD := Lib.hid (delI_any (World.drew (World.drew w)) 0 g pe.ks.length kc k (pe.ks.map (Value.int .i64)) (HKS.out.grows hdd) hk1 (by omega) (int_one _) pe.ks rfl)
  have HROW := Lib.hid hrowp
  have hs0 : (World.drew (World.drew w)).heap.size = w.heap.size := rfl
  generalize World.drew (World.drew w) = w2 at *
  have hwr : IntKind.i64.wrap ((k : Int) + 1) = (k : Int) + 1 := by rw [IntKind.wrap_i64]; omega
  (refine wpSeqL_free rfl ?_; refine wpQuiet_step (fun K hK => ?_); rw [if_pos (by simp [Region.wanted])]; refine ⟨.pointer (some ⟨L.bl e.p, 0, none⟩), fun w' hw' => ?_, ?_⟩; (focus (obtain ⟨r1, _⟩ := hw'; have s1 := row_sz' r1; simp [Oper.quietAt, Oper.quietUpon, go_sem, r1, s1])); go_simp; refine hK _ ?_; clear hK K; refine wpQuiet_nil ?_)
  (refine wpSeqL_free rfl ?_; refine wpQuiet_step (fun K hK => ?_); rw [if_pos (by simp [Region.wanted])]; refine ⟨.pointer (some ⟨L.bl e.p, 0, none⟩), fun w' hw' => ?_, ?_⟩; (focus (obtain ⟨r1, _⟩ := hw'; have s1 := row_sz' r1; simp [Oper.quietAt, Oper.quietUpon, go_sem, r1, s1])); go_simp; refine hK _ ?_; clear hK K; refine wpQuiet_nil ?_)
  (refine wpSeqL_free rfl ?_; refine wpQuiet_step (fun K hK => ?_); rw [if_pos (by simp [Region.wanted])]; refine ⟨.pointer (some ⟨L.bl e.p, 0, none⟩), fun w' hw' => ?_, ?_⟩; (focus (obtain ⟨r1, _⟩ := hw'; have s1 := row_sz' r1; simp [Oper.quietAt, Oper.quietUpon, go_sem, r1, s1])); go_simp; refine hK _ ?_; clear hK K; refine wpQuiet_nil ?_)
  (refine wpSeqL_free rfl ?_; refine wpQuiet_step (fun K hK => ?_); rw [if_pos (by simp [Region.wanted])]; refine ⟨.pointer (some ⟨L.bl e.p, 3, none⟩), fun w' hw' => ?_, ?_⟩; (focus (obtain ⟨r1, _⟩ := hw'; have s1 := row_sz' r1; simp [Oper.quietAt, Oper.quietUpon, go_sem, r1, s1])); go_simp; refine hK _ ?_; clear hK K; refine wpQuiet_nil ?_)
  (refine wpSeqL_free rfl ?_; refine wpQuiet_step (fun K hK => ?_); rw [if_pos (by simp [Region.wanted])]; refine ⟨.slice (some ⟨g, 0, none⟩) pe.ks.length kc, fun w' hw' => ?_, ?_⟩; (focus (obtain ⟨r1, _⟩ := hw'; have s1 := row_sz' r1; simp [Oper.quietAt, Oper.quietUpon, go_sem, r1, s1])); go_simp; refine hK _ ?_; clear hK K; refine wpQuiet_nil ?_)
  (refine wpSeqL_free rfl ?_; refine wpQuiet_step (fun K hK => ?_); rw [if_pos (by simp [Region.wanted])]; refine ⟨.pointer (some ⟨L.bl e.p, 0, none⟩), fun w' hw' => ?_, ?_⟩; (focus (obtain ⟨r1, _⟩ := hw'; have s1 := row_sz' r1; simp [Oper.quietAt, Oper.quietUpon, go_sem, r1, s1])); go_simp; refine hK _ ?_; clear hK K; refine wpQuiet_nil ?_)
  (refine wpSeqL_free rfl ?_; refine wpQuiet_step (fun K hK => ?_); rw [if_pos (by simp [Region.wanted])]; refine ⟨.pointer (some ⟨L.bl e.p, 0, none⟩), fun w' hw' => ?_, ?_⟩; (focus (obtain ⟨r1, _⟩ := hw'; have s1 := row_sz' r1; simp [Oper.quietAt, Oper.quietUpon, go_sem, r1, s1])); go_simp; refine hK _ ?_; clear hK K; refine wpQuiet_nil ?_)
  (refine wpSeqL_free rfl ?_; refine wpQuiet_step (fun K hK => ?_); rw [if_pos (by simp [Region.wanted])]; refine ⟨.pointer (some ⟨L.bl e.p, 3, none⟩), fun w' hw' => ?_, ?_⟩; (focus (obtain ⟨r1, _⟩ := hw'; have s1 := row_sz' r1; simp [Oper.quietAt, Oper.quietUpon, go_sem, r1, s1])); go_simp; refine hK _ ?_; clear hK K; refine wpQuiet_nil ?_)
  (refine wpSeqL_free rfl ?_; refine wpQuiet_step (fun K hK => ?_); rw [if_pos (by simp [Region.wanted])]; refine ⟨.slice (some ⟨g, 0, none⟩) pe.ks.length kc, fun w' hw' => ?_, ?_⟩; (focus (obtain ⟨r1, _⟩ := hw'; have s1 := row_sz' r1; simp [Oper.quietAt, Oper.quietUpon, go_sem, r1, s1])); go_simp; refine hK _ ?_; clear hK K; refine wpQuiet_nil ?_)
  (refine wpSeqL_free rfl ?_; refine wpQuiet_step (fun K hK => ?_); rw [if_pos (by simp [Region.wanted])]; refine ⟨.int .i64 e.id, fun w' hw' => ?_, ?_⟩; (focus (obtain ⟨r1, _⟩ := hw'; have s1 := row_sz' r1; simp [Oper.quietAt, Oper.quietUpon, go_sem, r1, s1])); go_simp; refine hK _ ?_; clear hK K; refine wpQuiet_nil ?_)
  refine wpSeqL_link rfl (fun K hK => ?_)
  go_simp
  (go_at_call 52; go_loud ((with_reducible refine (HIX.out _ hdd).mono ?_); rintro r w1 ⟨rfl, rfl⟩))
  refine ⟨_, rfl, hK _ _ ⟨hrd, trivial⟩ ?_⟩
  clear hK K
  (refine wpSeqL_free rfl ?_; refine wpQuiet_step (fun K hK => ?_); rw [if_pos (by simp [Region.wanted])]; refine ⟨.pointer (some ⟨L.bl e.p, 0, none⟩), fun w' hw' => ?_, ?_⟩; (focus (obtain ⟨r1, _⟩ := hw'; have s1 := row_sz' r1; simp [Oper.quietAt, Oper.quietUpon, go_sem, r1, s1])); go_simp; refine hK _ ?_; clear hK K; refine wpQuiet_nil ?_)
  (refine wpSeqL_free rfl ?_; refine wpQuiet_step (fun K hK => ?_); rw [if_pos (by simp [Region.wanted])]; refine ⟨.pointer (some ⟨L.bl e.p, 0, none⟩), fun w' hw' => ?_, ?_⟩; (focus (obtain ⟨r1, _⟩ := hw'; have s1 := row_sz' r1; simp [Oper.quietAt, Oper.quietUpon, go_sem, r1, s1])); go_simp; refine hK _ ?_; clear hK K; refine wpQuiet_nil ?_)
  (refine wpSeqL_free rfl ?_; refine wpQuiet_step (fun K hK => ?_); rw [if_pos (by simp [Region.wanted])]; refine ⟨.pointer (some ⟨L.bl e.p, 3, none⟩), fun w' hw' => ?_, ?_⟩; (focus (obtain ⟨r1, _⟩ := hw'; have s1 := row_sz' r1; simp [Oper.quietAt, Oper.quietUpon, go_sem, r1, s1])); go_simp; refine hK _ ?_; clear hK K; refine wpQuiet_nil ?_)
  (refine wpSeqL_free rfl ?_; refine wpQuiet_step (fun K hK => ?_); rw [if_pos (by simp [Region.wanted])]; refine ⟨.slice (some ⟨g, 0, none⟩) pe.ks.length kc, fun w' hw' => ?_, ?_⟩; (focus (obtain ⟨r1, _⟩ := hw'; have s1 := row_sz' r1; simp [Oper.quietAt, Oper.quietUpon, go_sem, r1, s1])); go_simp; refine hK _ ?_; clear hK K; refine wpQuiet_nil ?_)
  (refine wpSeqL_free rfl ?_; refine wpQuiet_step (fun K hK => ?_); rw [if_pos (by simp [Region.wanted])]; refine ⟨.int .i64 e.id, fun w' hw' => ?_, ?_⟩; (focus (obtain ⟨r1, _⟩ := hw'; have s1 := row_sz' r1; simp [Oper.quietAt, Oper.quietUpon, go_sem, r1, s1])); go_simp; refine hK _ ?_; clear hK K; refine wpQuiet_nil ?_)
  refine wpSeqL_link rfl (fun K hK => ?_)
  go_simp
  (go_at_call 52; go_loud ((with_reducible refine (HIX.out _ hdd).mono ?_); rintro r w1 ⟨rfl, rfl⟩))
  refine ⟨_, rfl, hK _ _ ⟨hrd, trivial⟩ ?_⟩
  clear hK K
  (refine wpSeqL_free rfl ?_; refine wpQuiet_step (fun K hK => ?_); rw [if_pos (by simp [Region.wanted])]; refine ⟨.int .i64 ((k : Int) + 1), fun w' hw' => ?_, ?_⟩; (focus (obtain ⟨r1, _⟩ := hw'; have s1 := row_sz' r1; simp [Oper.quietAt, Oper.quietUpon, go_sem, r1, s1, hwr])); go_simp; refine hK _ ?_; clear hK K; refine wpQuiet_nil ?_)
  refine wpSeqL_link rfl (fun K hK => ?_)
  go_simp
  (go_at_call 51; go_loud ((with_reducible refine HD.out.mono ?_); rintro r w7 ⟨rfl, ho7, hg7⟩))
  have hrow7 : w7.row (L.bl e.p) = _ := World.row_grown hg7 hrd (fun hh => (s3 _ (by rw [ek]; exact hh.symm)).2.2.1 (by rw [hpid]))
  have zr7 := row_sz' hrow7
  refine ⟨_, rfl, hK _ _ ⟨hrow7, trivial⟩ ?_⟩
  clear hK K
  (refine wpSeqL_free rfl ?_; refine wpQuiet_step (fun K hK => ?_); rw [if_pos (by simp [Region.wanted])]; refine ⟨.pointer (some ⟨L.bl e.p, 0, none⟩), fun w' hw' => ?_, ?_⟩; (focus (obtain ⟨r1, _⟩ := hw'; have s1 := row_sz' r1; simp [Oper.quietAt, Oper.quietUpon, go_sem, r1, s1])); go_simp; refine hK _ ?_; clear hK K; refine wpQuiet_nil ?_)
  (refine wpSeqL_free rfl ?_; refine wpQuiet_step (fun K hK => ?_); rw [if_pos (by simp [Region.wanted])]; refine ⟨.pointer (some ⟨L.bl e.p, 3, none⟩), fun w' hw' => ?_, ?_⟩; (focus (obtain ⟨r1, _⟩ := hw'; have s1 := row_sz' r1; simp [Oper.quietAt, Oper.quietUpon, go_sem, r1, s1])); go_simp; refine hK _ ?_; clear hK K; refine wpQuiet_nil ?_)
  refine wpSeqL_end ?_
  go_upto_region 8 with fail
  have hmid : ∃ Lm : Ly, Lm.t = L.t ∧ Chg (L.own M.els) w (Lm.own (updE M.els e.p (remE e.id))) (w7.setCell ⟨L.bl e.p, 3, none⟩ (.slice (some ⟨g, 0, none⟩) (pe.ks.length - 1) kc)) ∧ TreeAt (w7.setCell ⟨L.bl e.p, 3, none⟩ (.slice (some ⟨g, 0, none⟩) (pe.ks.length - 1) kc)) Lm ⟨M.root, M.next, updE M.els e.p (remE e.id)⟩ := by
    have HMW' := HMW.out
    rw [← hpid] at HMW' hrow7 ⊢
    have hT2 := HT.out.grows hdd
    refine TreeAt.edit1 hdd hT2 HPE.out (kv := .slice (some ⟨g, 0, none⟩) (pe.ks.length - 1) kc) (av := .slice aa pe.at'.length ac) (remE e.id) (fun _ => rfl) ?_ ?_ ?_ ?_ ?_ ?_ ?_ HMW' ?_
    · exact ⟨fun g hg => .inl (by rw [ek]; exact hg), fun g hg => .inl (by rw [ea]; exact hg), fun g' hg' hl _ => by have := hT2.ltK HPE.out (g := g') (by rw [ek]; exact hg'); omega⟩
    · rw [World.row_setCell, if_pos rfl, hrow7]; rfl
    · have e1 : (remE e.id pe).ks = pe.ks.take k ++ pe.ks.drop (k + 1) := HF.out
      have e2 : (remE e.id pe).ks.length = pe.ks.length - 1 := by rw [e1]; simp; omega
      have e3 : (remE e.id pe).ks.map (Value.int .i64) = (pe.ks.map (Value.int .i64)).take (k * 1) ++ (pe.ks.map (Value.int .i64)).drop ((k + 1) * 1) := by rw [e1]; simp [List.map_take, List.map_drop]
      rw [e2, e3]
      exact ownsRow_row ho7 fun g' hg' => by rw [World.row_setCell, if_neg (s3 g' (by rw [ek]; exact hg')).2.2.1]
    · have hk := (hT2.els pe HPE.out).2.2
      rw [ea] at hk
      refine ownsRow_row hk fun g' hg' => ?_
      have q := s4 g' (by rw [ea]; exact hg')
      rw [World.row_setCell, if_neg q.2.2.1]
      exact World.row_grow hg7 (hk.lt g' hg').2 (fun hh => q.2.2.2 (by rw [ek]; exact hh.symm))
    · intro k hk h1 h2 h3
      rw [World.row_setCell, if_neg h1]
      exact World.row_grow hg7 hk (fun hh => h2 (by rw [ek]; exact hh.symm))
    · rw [World.setCell_size' _ _ _]; exact hg7.size
    · intro w00 a1 a2
      exact (World.grows.grown a2 hg7 (fun k hk => a1 k (.inr (.inr ⟨pe, HPE.out, .inr (.inl (by rw [ek]; exact hk))⟩)))).setCell' (a1 _ (.inr (.inr ⟨pe, HPE.out, .inl rfl⟩))) _ _
    · have hw := HT.out.elWf pe HPE.out
      exact ⟨hw.1, hw.2.1, hw.2.2.1, fun x hx => hw.2.2.2.1 x (List.mem_filter.1 hx).1, hw.2.2.2.2.1, hw.2.2.2.2.2.1, hw.2.2.2.2.2.2.1, Nat.le_trans (List.length_filter_le _ _) hw.2.2.2.2.2.2.2⟩
  obtain ⟨Lm, hLt, hc, hTm⟩ := hmid
  generalize w7.setCell ⟨L.bl e.p, 3, none⟩ (.slice (some ⟨g, 0, none⟩) (pe.ks.length - 1) kc) = V at *
  have hb := domBelow_any V Lm _ hTm e.id hidI
  rw [hLt, HBN.out.2.2] at hb
  have HB := Lib.hid hb
  obtain ⟨hB1, hB2, _⟩ := HBN.out
  have HWF' := HWF.out
  have hBs : ∀ x ∈ M.below 32 e.id, ∃ f ∈ updE M.els e.p (remE e.id), f.id = x := fun x hx => by
    obtain ⟨f, hf, rfl⟩ := hB2 x hx
    exact ⟨_, updE_mem.2 ⟨f, hf, rfl⟩, updE_id (f := remE e.id) (fun _ => rfl)⟩
  clear HBN HWF HMW hb hB2
  generalize hBe : M.below 32 e.id = B at *
  have HC := Lib.hid hc; have HTM := Lib.hid hTm; have HW2 := Lib.hid HWF'; have HB1 := Lib.hid hB1; have HBS := Lib.hid hBs
  have HBE := Lib.hid hBe
  clear hBe hc hTm HWF' hB1 hBs hrow7 zr7 ho7 hg7 hrd HROW hrowp zrp hrow zr hlk hlk2 hx zx HD HF hs0
  go_upto_region 9 with (go_at_call 46; go_loud ((with_reducible refine HB.out.mono ?_); rintro r w9 ⟨vB, rfl, hg9, hvB⟩); obtain ⟨aB, cB, rfl⟩ := own_slice hvB)
  have hT9 := HTM.out.grows hg9
  have hx9 := hT9.head
  rw [hLt] at hx9
  obtain ⟨c, D, hcn, hown, hmp, hhas, hsz⟩ := hT9.map
  have hmbV := HTM.out.lt (k := Lm.mb) (.inr (.inl rfl))
  have htmb : L.t ≠ Lm.mb := by
    rw [← hLt]; intro hh
    have q1 := hT9.ok.1; have q2 := hT9.ok.2.1
    rw [hh, q2] at q1; cases q1
  have HT9 := Lib.hid hT9; have HMP := Lib.hid hmp; have HH := Lib.hid hhas; have HS := Lib.hid hsz
  have HIB := Lib.hid (IntsAt_own hvB)
  have HVB := Lib.hid hvB
  have HO9 := Lib.hid hown
  have zt9 := (row_sz' hx9).1
  clear hT9 hmp hhas hsz hvB hown
  go_loopg [57] B.length (fun gn v57 wj => ∃ i : Nat, Hid (gn + i = B.length ∧ i ≤ B.length) ∧ v57 = .int .i64 i ∧ Hid (RemSt w9 wj Lm c D (B.take i)))
  case atStart => exact ⟨0, Lib.hid ⟨by simp, Nat.zero_le _⟩, by go_num, Lib.hid ⟨World.grownBy.refl _ _, D, HO9.out, fun i => by simp, fun i _ => rfl, fun i hi => by simp at hi, by simp⟩⟩
  case round =>
    obtain ⟨i, HQ, rfl, HR⟩ := hrel
    obtain ⟨j1, j2⟩ := HQ.out
    obtain ⟨hgr, D', hown', h1, h2, h3, h4'⟩ := HR.out
    have rw' : ∀ k, k < w9.heap.size → k ≠ Lm.mb → wr.row k = w9.row k := fun k hk hne => World.row_grow hgr hk (fun hh => by injection hh with hh; exact hne hh)
    have hxr : wr.row L.t = _ := (rw' _ zt9 htmb).trans hx9
    have zxr := row_sz' hxr
    by_cases hlt : i < B.length
    · have i1 : (i : Int) < (B.length : Int) := by omega
      have hgt := List.getElem?_eq_getElem hlt
      obtain ⟨_, _, e4, _, _, b5⟩ := HIB.out
      injection e4 with e4 e5 e6
      clear e5
      subst e4; subst e6
      rcases b5 with h0 | ⟨gB, off, rfl, _, h4⟩
      · rw [h0] at hlt; simp at hlt
      obtain ⟨cs, _, el, rfl⟩ := h4 i _ hgt
      have hgB : gB ≠ Lm.mb := by have := (HVB.out.lt gB rfl).1; omega
      have elr := el.keep (rw' gB el.lt hgB)
      have c0 := elr.cell (j := 0) rfl
      rw [World.cell?_row, Nat.add_zero, Nat.mul_one] at c0
      have zg := lt_sz elr.lt
      have hTK := Lib.hid (show B.take (i + 1) = B.take i ++ [B[i]] by rw [List.take_add_one, hgt]; rfl)
      have hnt : B[i] ∉ B.take i := fun hm => by
        obtain ⟨j, hj, hje⟩ := List.mem_iff_getElem.1 hm
        simp at hj
        rw [List.getElem_take] at hje
        exact (List.pairwise_iff_getElem.1 HB1.out) j i (by omega) hlt (by omega) hje
      have hbm : has D (.int .i64 B[i]) = true := by
        rw [HH.out]
        obtain ⟨f, hf, hfi⟩ := HBS.out _ (List.getElem_mem hlt)
        show (findE _ _).isSome = true
        rw [← hfi, findE_of HT9.out.wf.up hf]; rfl
      have hbI : I64 B[i] := by
        obtain ⟨f, hf, hfi⟩ := HBS.out _ (List.getElem_mem hlt)
        rw [← hfi]; exact (HT9.out.elWf f hf).1
      generalize B[i] = bi at *
      have HO' := Lib.hid hown'
      clear h4 el elr hgt hown' rw'
      go_wp2_with (at_delete; go_loud (refine wpList_delete_own _ rfl _ _ 43 3 rfl 52 (int_keyed Tryz.underlying3) Tryz.underlying43 heldP Lm.mb c D' rfl HO'.out _ (.int .i64 bi) rfl (keyOf_int_mk Tryz.underlying3 (lit_wf hbI)) ?_); intro w' hown2 hturn)
      have HN := Lib.hid (RemSt.del hgr HO'.out h1 h2 h3 h4' hnt hbm hown2 hturn)
      rw [← hTK.out] at HN
      go_roundg (B.length - (i + 1))
      case measure => omega
      case rel => exact ⟨i + 1, Lib.hid ⟨by omega, by omega⟩, by go_num, HN⟩
    · have i1 : ¬ (i : Int) < (B.length : Int) := by omega
      obtain rfl : i = B.length := by omega
      rw [List.take_length] at HR
      go_wp2_with fail
      go_ret
      obtain ⟨q1, q2⟩ := RemSt.tree HT9.out hcn HMP.out HH.out HS.out HR.out HB1.out HBS.out HW2.out
      have e2 : (fun f : El => !decide (f.id ∈ M.below 32 e.id)) = fun f => decide (f.id ∉ B) := by funext f; rw [HBE.out]; simp
      first | rw [e2] | rw [HBE.out]
      exact ⟨rfl, Lm, hLt, (HC.out.grow hg9).trans q1, q2⟩

set_option maxRecDepth 100000 in
set_option maxHeartbeats 8000000 in
theorem domRem_any (w : World) (L : Ly) (M : Dm) (h : TreeAt w L M) (hp : M.Par) (id : Int) (hi : I64 id) :
    Calls Tryz.prog 31 #[.pointer (some ⟨L.t, 0, none⟩), .int .i64 id] w (Edit w L M (M.rem id).2 (.int .i64 (M.rem id).1)) := by
  cases hat : M.at id with
  | none =>
    have hx := h.head
    have zx := row_sz' hx
    have hlk := h.look id hi
    unfold mvOf at hlk
    rw [hat] at hlk
    simp only at hlk
    have e : M.rem id = (5, M) := by unfold Dm.rem; rw [hat]
    rw [e]
    have HT := Lib.hid h
    clear h e hat
    go_enter Tryz.func31, Tryz.ntmps31
    go_wp2_with fail
    go_ret
    exact ⟨rfl, Edit.no (v := undef) HT.out World.grows.refl⟩
  | some e =>
    obtain ⟨he, rfl⟩ := findE_some hat
    by_cases hr : e.id = M.root
    · have hx := h.head
      have zx := row_sz' hx
      have hlk := h.look e.id hi
      unfold mvOf at hlk
      rw [hat] at hlk
      simp only at hlk
      have q : M.rem e.id = (1, M) := by unfold Dm.rem; rw [hat]; simp only; rw [if_pos hr]
      rw [q]
      have hrb : ((e.id == M.root) = true) := by simpa using hr
      have HT := Lib.hid h
      clear h q hat hr he
      go_enter Tryz.func31, Tryz.ntmps31
      go_wp2_with fail
      go_ret
      exact ⟨rfl, Edit.no (v := undef) HT.out World.grows.refl⟩
    · have q : M.rem e.id = (0, ⟨M.root, M.next, (updE M.els e.p (remE e.id)).filter fun f => decide (f.id ∉ M.below 32 e.id)⟩) := by unfold Dm.rem; rw [hat]; simp only; rw [if_neg hr]
      rw [q]
      exact domRem_ok w L M h hp he hr
end Go.Proofs.YtdbddnkjiehaiaaGreat

/- WALKS over dom and jalousieref8: Place. No condition but that a tree stands in memory. -/
import Derived.Test.YtdbddnkjiehaiaaDomLa
set_option linter.unusedSimpArgs false
set_option linter.unusedVariables false
namespace Go
open Go.RowKit
def Dm.place (M : Dm) (id : Int) : Int × Bool :=
  match M.at id with
  | none => (0, false)
  | some e => if id = M.root then (0, true) else match M.at e.p with
    | none => (0, true)
    | some pe => (Lib.idxOf pe.ks id, true)
end Go
namespace Go.Proofs.Ytdbddnkjiehaiaa
open Go.Maps Go.RowKit Go.Sort
set_option maxRecDepth 100000 in
set_option maxHeartbeats 8000000 in
theorem refPlace_any (w : World) (t : Nat) (v : Value) (M : Dm) (h : RefR w t v M) (hG : M.Good) (hw : ∀ e ∈ M.els, e.Wf) (id : Int) : Calls Try.prog 13 #[.pointer (some ⟨t, 0, none⟩), .int .i64 id] w (Gives w (.tuple #[.int .i64 (M.place id).1, .bool (M.place id).2])) := by
  have HAT := Lib.hid (fun (W : World) (hW : w.grows W) (id : Int) => refAt_any W t v M (h.grows hW) hG.wf.few id)
  cases hat : M.at id with
  | none =>
    have hp : posE M.els id = -1 := posE_none (findE_none hat)
    have hbx : M.place id = (0, false) := by unfold Dm.place; rw [hat]
    rw [hbx]
    clear h hbx hG hat
    go_enter Try.func13, Try.ntmps13
    go_wp2_with (go_at_call 17; go_loud ((with_reducible refine (HAT.out _ (by repeat (with_reducible first | assumption | exact grA | apply grB | apply grC | apply grD | refine grE ?_ (by omega) _ | refine grF ?_ (by omega) _ _)) _).mono ?_); rw [hp]; rintro r w1 ⟨rfl, hg1⟩))
    go_ret2
    exact ⟨rfl, hg1⟩
  | some e =>
    obtain ⟨he, rfl⟩ := findE_some hat
    obtain ⟨k, hp, hkl, hke⟩ := posE_at hG.wf.up he
    have hfew := hG.wf.few
    have hkI : (k : Int) < (M.els.length : Int) := by omega
    obtain ⟨a0, c0, rfl, _⟩ := h.els.len
    rcases (els_get h.els).2 with h0 | ⟨g, o, rfl, e1⟩
    · rw [h0] at hkl; simp at hkl
    obtain ⟨cs, l1, k1, ka, aa, kc, ac, rfl, _, _⟩ := e1 k _ hke
    have HR := Lib.hid h
    have K1 := Lib.hid k1
    by_cases hr : e.id = M.root
    · have q : M.place e.id = (0, true) := by unfold Dm.place; rw [hat]; simp only; rw [if_pos hr]
      rw [q]
      obtain ⟨re, hre, hr1, hr2⟩ := hG.wf.rootE
      have hep : e.p = -1 := by rw [ids_inj hG.wf.up he hre (hr.trans hr1.symm)]; exact hr2
      have hpp : posE M.els e.p = -1 := by
        rw [hep]
        exact posE_none fun y hy hh => by have := (hG.wf.low y hy).1; omega
      clear h q hG hat hre hr1 hr2 he hr e1 k1 hw hep
      go_enter Try.func13, Try.ntmps13
      go_upto_region 4 with (go_at_call 17; go_loud ((with_reducible refine (HAT.out _ (by repeat (with_reducible first | assumption | exact grA | apply grB | apply grC | apply grD | refine grE ?_ (by omega) _ | refine grF ?_ (by omega) _ _)) _).mono ?_); rw [hp]; rintro r w1 ⟨rfl, hg1⟩))
      have hx1 := (HR.out.grows hg1).head
      have zx1 := row_sz' hx1
      have k2 := K1.out.grows hg1
      have z2 := lt_sz k2.lt
      have c2 := k2.cell (j := 1) rfl
      rw [World.cell?_row] at c2
      go_wp2_with (go_at_call 17; go_loud ((with_reducible refine (HAT.out _ hg1 _).mono ?_); rw [hpp]; rintro r w2 ⟨rfl, hg2⟩))
      go_ret2
      exact ⟨rfl, hg1.trans hg2⟩
    · obtain ⟨pe, hpe, hpid, hkin⟩ := hG.par e he hr
      obtain ⟨kp, hpp, hkpl, hkpe⟩ := posE_at hG.wf.up hpe
      obtain ⟨cs2, l2, k2, kb, ab, kd, ad, rfl, hks, _⟩ := e1 kp _ hkpe
      obtain ⟨n, hn1, hn2, hn3⟩ := idxOf_mem hkin
      have q : M.place e.id = ((n : Int), true) := by
        unfold Dm.place; rw [hat]; simp only
        have hatp : M.at e.p = some pe := by rw [← hpid]; exact findE_of hG.wf.up hpe
        rw [if_neg hr, hatp]
        simp only [hn2]
      rw [q]
      rw [hpid] at hpp
      have hpI : (kp : Int) < (M.els.length : Int) := by omega
      have K2 := Lib.hid k2
      have HKI := Lib.hid (ints_get (SlAt.keep hks (S' := fun _ => True) (fun g _ _ => ⟨rfl, trivial⟩) fun _ _ _ h => h)).2
      have hkl2 := (hw pe hpe).2.2.2.2.2.2.2
      have HON := Lib.hid (fun (i : Nat) (hi : i < n) (x : Int) (hx : pe.ks[i]? = some x) => show ¬ x = e.id from fun hh => by
        have h1 := hG.wf.once pe hpe
        obtain ⟨q1, q2⟩ := List.getElem?_eq_some_iff.1 hx
        obtain ⟨q3, q4⟩ := List.getElem?_eq_some_iff.1 hn3
        have := (List.nodup_iff_pairwise_ne.1 h1)
        have := List.pairwise_iff_getElem.1 this i n q1 q3 hi
        rw [q2, q4] at this
        exact this hh)
      have HN3 := Lib.hid hn3
      clear h q hG hat he hr e1 k1 hw hpe hkin hks k2 hn2 hn3
      go_enter Try.func13, Try.ntmps13
      go_upto_region 4 with (go_at_call 17; go_loud ((with_reducible refine (HAT.out _ (by repeat (with_reducible first | assumption | exact grA | apply grB | apply grC | apply grD | refine grE ?_ (by omega) _ | refine grF ?_ (by omega) _ _)) _).mono ?_); rw [hp]; rintro r w1 ⟨rfl, hg1⟩))
      have hx1 := (HR.out.grows hg1).head
      have zx1 := row_sz' hx1
      have kk1 := K1.out.grows hg1
      have z1 := lt_sz kk1.lt
      have c1 := kk1.cell (j := 1) rfl
      rw [World.cell?_row] at c1
      go_upto_region 7 with (go_at_call 17; go_loud ((with_reducible refine (HAT.out _ hg1 _).mono ?_); rw [hpp]; rintro r w2 ⟨rfl, hg2⟩))
      have hg12 := hg1.trans hg2
      have hx2 := (HR.out.grows hg12).head
      have zx2 := row_sz' hx2
      have kk2 := K2.out.grows hg12
      have z2 := lt_sz kk2.lt
      have c2 := kk2.cell (j := 3) rfl
      rw [World.cell?_row] at c2
      clear hx1 zx1 kk1 z1 c1 kk2
      go_upto_region 8 with fail
      go_loopg [36] pe.ks.length (fun gn v36 wj => ∃ i : Nat, Hid (gn + i = pe.ks.length ∧ i ≤ n) ∧ v36 = .int .i64 i ∧ w.grows wj)
      case atStart => exact ⟨0, Lib.hid ⟨by simp, Nat.zero_le _⟩, by go_num, hg12⟩
      case round =>
        obtain ⟨i, HQ, rfl, hgj⟩ := hrel
        obtain ⟨j1, j2⟩ := HQ.out
        have hlt : i < pe.ks.length := by omega
        have i1 : (i : Int) < (pe.ks.length : Int) := by omega
        rcases HKI.out with h0 | ⟨p3, o3, rfl, e3⟩
        · rw [h0] at hlt; simp at hlt
        have hgt := List.getElem?_eq_getElem hlt
        have k3 := (e3 i _ hgt).grows hgj
        have HGT := Lib.hid hgt
        generalize pe.ks[i] = x at *
        have c3 := k3.cell (j := 0) rfl
        rw [World.cell?_row, Nat.add_zero, Nat.mul_one] at c3
        have z3 := lt_sz k3.lt
        clear e3 hgt hx2 zx2 c2 z2 k3
        by_cases hin : i < n
        · have hx := HON.out i hin x HGT.out
          have hxb : (x == e.id) = false := by simpa using hx
          go_wp2_with fail
          go_roundg (pe.ks.length - (i + 1))
          case measure => omega
          case rel => exact ⟨i + 1, Lib.hid ⟨by omega, by omega⟩, by go_num, (by repeat (with_reducible first | assumption | exact grA | apply grB | apply grC | apply grD | refine grE ?_ (by omega) _ | refine grF ?_ (by omega) _ _))⟩
        · obtain rfl : i = n := by omega
          have hx : x = e.id := by have := HGT.out.symm.trans HN3.out; injection this
          have hxb : (x == e.id) = true := by simpa using hx
          clear hx
          go_wp2_with fail
          go_ret2
          exact ⟨rfl, hgj⟩

set_option maxRecDepth 100000 in
set_option maxHeartbeats 8000000 in
theorem domPlace_any (w : World) (L : Ly) (M : Dm) (h : TreeAt w L M) (hp : M.Par) (id : Int) (hi : I64 id) :
    Calls Try.prog 12 #[.pointer (some ⟨L.t, 0, none⟩), .int .i64 id] w (Gives w (.tuple #[.int .i64 (M.place id).1, .bool (M.place id).2])) := by
  have hx := h.head
  have zx := row_sz' hx
  have hlk := h.look id hi
  unfold mvOf at hlk
  cases hat : M.at id with
  | none =>
    rw [hat] at hlk
    simp only at hlk
    have e : M.place id = (0, false) := by unfold Dm.place; rw [hat]
    rw [e]
    clear h e hat
    go_enter Try.func12, Try.ntmps12
    go_wp2_with fail
    go_ret2
    exact ⟨rfl, World.grows.refl⟩
  | some e =>
    rw [hat] at hlk
    simp only at hlk
    obtain ⟨he, rfl⟩ := findE_some hat
    have hrow := (h.els e he).1
    unfold elC at hrow
    have zr := row_sz' hrow
    by_cases hr : e.id = M.root
    · have q : M.place e.id = (0, true) := by unfold Dm.place; rw [hat]; simp only; rw [if_pos hr]
      rw [q]
      have hrb : (e.id == M.root) = true := by simpa using hr
      clear h q hat he hr
      go_enter Try.func12, Try.ntmps12
      go_wp2_with fail
      go_ret2
      exact ⟨rfl, World.grows.refl⟩
    · obtain ⟨pe, hpe, hpid, hpk⟩ := hp e he hr
      have hlk2 : ∀ x : Ext, (Instr.lookup 79 (.map (some L.mb)) (.int .i64 e.p) false).run Try.prog (w.plus x) = .ok (.pointer (some ⟨L.bl e.p, 0, none⟩)) (w.plus x) := fun x => by
        have := (h.grows (World.grows.plus World.grows.refl x)).look pe.id (h.elWf pe hpe).1
        have hat2 : M.at pe.id = some pe := findE_of h.wf.up hpe
        unfold mvOf at this
        rw [hat2, hpid] at this
        exact this
      obtain ⟨hrowp, hks, _⟩ := h.els pe hpe
      obtain ⟨ka, kc, ek⟩ := own_slice hks
      unfold elC at hrowp
      rw [ek] at hrowp hks
      rw [hpid] at hrowp
      have zrp := row_sz' hrowp
      obtain ⟨k, hk1, hk2, hk3⟩ := idxOf_mem hpk
      obtain ⟨g, rfl⟩ : ∃ g, ka = some ⟨g, 0, none⟩ := by
        rcases hks.2 with ⟨h0, h1⟩ | ⟨g, _, _, h0, _⟩
        · omega
        · injection h0 with h0; exact ⟨g, h0⟩
      have hkl := (h.elWf pe hpe).2.2.2.2.2.2.2
      have hcell : ∀ j, j < pe.ks.length → w.cell? ⟨g, 0 + j, none⟩ = some (.int .i64 (pe.ks.getD j 0)) := fun j hj => by
        have := hks.cells (g := g) rfl j (.int .i64 (pe.ks.getD j 0)) (by rw [List.getElem?_map, List.getElem?_eq_getElem hj, List.getD_eq_getElem?_getD, List.getElem?_eq_getElem hj]; rfl)
        rwa [Addr.add_lit] at this
      have hix := fun (W : World) (hW : w.grows W) => Try.slices_Index_int g 0 pe.ks.length kc pe.ks e.id W (Nat.le_refl _) (by omega) (fun j hj => hW.cell_eq (hcell j hj))
      rw [List.take_length, hk2] at hix
      have HIX := Lib.hid hix
      have q : M.place e.id = ((k : Int), true) := by
        unfold Dm.place; rw [hat]; simp only
        have hatp : M.at e.p = some pe := by rw [← hpid]; exact findE_of h.wf.up hpe
        rw [if_neg hr, hatp]
        simp only [hk2]
      rw [q]
      have hrb : (e.id == M.root) = false := by simpa using hr
      have hrn : ¬ e.id = M.root := hr
      clear h q hat he hpe hpk hks hcell hix hk2 hk3 hr
      go_enter Try.func12, Try.ntmps12
      go_upto_region 6 with fail
      refine wp_region_plus_seq (by kernel_rfl) (by kernel_rfl) (fun x0 => ?_)
      repeat (any_goals (first | (refine wpSeqL_free rfl ?_; first | (go_big_quiet_skip; refine wpQuiet_nil ?_) | (go_big_quiet_step (fail); refine wpQuiet_nil ?_) | (refine wpQuiet_step (fun K hK => ?_); go_simp; split <;> (refine hK _ ?_; clear hK K; refine wpQuiet_nil ?_))) | (refine wpSeqL_link rfl (fun K hK => ?_); go_simp; first | first | (refine hK _ _ (by show World.grows _ _; repeat (first | assumption | exact grA | apply grB | apply grC | apply grD)) ?_; clear hK K) | (((go_at_call 48; go_loud ((with_reducible refine (HIX.out _ (by repeat (with_reducible first | assumption | exact grA | apply grB | apply grC | apply grD | refine grE ?_ (by omega) _ | refine grF ?_ (by omega) _ _))).mono ?_); rintro r w1 ⟨rfl, rfl⟩))); refine ⟨_, rfl, hK _ _ (by show World.grows _ _; repeat (first | assumption | exact grA | apply grB | apply grC | apply grD)) ?_⟩; clear hK K) | (split <;> (first | (refine hK _ _ (by show World.grows _ _; repeat (first | assumption | exact grA | apply grB | apply grC | apply grD)) ?_; clear hK K) | (((go_at_call 48; go_loud ((with_reducible refine (HIX.out _ (by repeat (with_reducible first | assumption | exact grA | apply grB | apply grC | apply grD | refine grE ?_ (by omega) _ | refine grF ?_ (by omega) _ _))).mono ?_); rintro r w1 ⟨rfl, rfl⟩))); refine ⟨_, rfl, hK _ _ (by show World.grows _ _; repeat (first | assumption | exact grA | apply grB | apply grC | apply grD)) ?_⟩; clear hK K))))))
      all_goals (refine wpSeqL_end ?_)
      go_wp2_with fail
      go_ret2
      exact ⟨rfl, (by repeat (with_reducible first | assumption | exact grA | apply grB | apply grC | apply grD | refine grE ?_ (by omega) _ | refine grF ?_ (by omega) _ _))⟩
end Go.Proofs.Ytdbddnkjiehaiaa

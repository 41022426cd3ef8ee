/- WALK over the document's answer: jalousieref12.Add: the sum of forms. No condition but that the forms stand in memory, that their units may be and that they are not too many. -/
import Derived.Test.YthmicnjigfcljaaRForm0
import Derived.Test.YthmicnjigfcljaaFmR
import Derived.Test.YthmicnjigfcljaaMo
import Derived.Test.YthmicnjigfcljaaMn
import Derived.Test.YthmicnjigfcljaaMa
set_option linter.unusedSimpArgs false
set_option linter.unusedVariables false
namespace Go
open Go.RowKit
theorem OwnAt.row_kept {α : Type} {w W : World} {B : Nat} {e : TypeId} {n : Nat} {R : α → List Value → Prop} {v : Value} {l : List α} (h : OwnAt w B e n R v l) (hk : ∀ g, B ≤ g → g < w.heap.size → W.row g = w.row g) : OwnAt W B e n R v l := by
  obtain ⟨css, h1, h2, h3⟩ := h
  exact ⟨css, h1, h2, h3.row_kept hk⟩
theorem OwnAt.grow_set {α : Type} {w X : World} {B : Nat} {e : TypeId} {n : Nat} {R : α → List Value → Prop} {v : Value} {l : List α} (h : OwnAt w B e n R v l) (hg : w.grows X) {o : Nat} {c : Array Value} (ho : o < B) : OwnAt (X.setRow o c) B e n R v l :=
  (h.mono hg (fun _ _ _ h => h)).row_kept fun g hB _ => by rw [World.row_setRow, if_neg (by omega)]
theorem OwnAt.setIn {α : Type} {w : World} {B : Nat} {e : TypeId} {n : Nat} {R : α → List Value → Prop} {v : Value} {l : List α} (h : OwnAt w B e n R v l) {o : Nat} {c : Array Value} (ho : o < B) : OwnAt (w.setRow o c) B e n R v l :=
  h.row_kept fun g hB _ => by rw [World.row_setRow, if_neg (by omega)]
end Go
namespace Go.Proofs.Ythmicnjigfcljaa
open Go.RowKit

set_option maxRecDepth 100000 in
set_option maxHeartbeats 8000000 in
theorem refAddF_any (l : List Fm) (v : Value) (w : World) (S : Nat → Prop) (hS : ∀ g, w.heap.size ≤ g → S g) (hl : SlAt w S 15 (FormOk w S) v l) (hm : ∀ f ∈ l, mayUF f) (hlen : l.length ≤ 4194304) (hps : (l.flatMap Fm.ps).length ≤ 33554432) :
    Calls Try.prog 35 #[v] w (FormP w S (addF l)) := by
  obtain ⟨a, cap, rfl, hlc, hc, hE⟩ := hl
  have hfb : ∀ f ∈ l, f.us.length = 7 ∧ ∀ p ∈ f.us, I64p p := fun f hf => by
    rcases hE with h | ⟨g, off, _, _, hcell⟩
    · rw [h] at hf; cases hf
    · obtain ⟨i, hi, rfl⟩ := List.mem_iff_getElem.1 hf
      obtain ⟨cs, _, _, hok⟩ := hcell i l[i] (by simp [hi])
      generalize l[i] = f at *
      obtain ⟨us, ps⟩ := f
      exact ⟨(FormOk_us hok).1, (FormOk_us hok).2.1⟩
  have hab : ∀ k, ∀ p ∈ (addF (l.take k)).us, I64p p := fun k => addF_bd (fun f hf => (hfb f (List.mem_of_mem_take hf)).2)
  have HE := Lib.hid hE; have HS := Lib.hid hS; have HF := Lib.hid hfb; have HP := Lib.hid hps; have HM := Lib.hid hm; have HAB := Lib.hid hab; clear hE hS hfb hps hm hab
  go_enter Try.func35, Try.ntmps35
  go_wp2_with (first | (go_at_call 27; (with_reducible refine (refZero_any _).mono ?_); rintro e w1 ⟨rfl, x1, rfl⟩))
  generalize ho : w.heap.size + 1 + x1.bs.size = o
  have ho1 : w.heap.size < o := by omega
  have ne1 : (w.heap.size = o) = False := by apply eq_false; omega
  have ne2 : (o = w.heap.size) = False := by apply eq_false; omega
  go_loopg [10] l.length (fun gn v10 wj => ∃ (k : Nat) (ap : Option Addr) (np cp : Nat), Hid (gn + k = l.length) ∧ k ≤ l.length ∧ v10 = .int .i64 k ∧ Hid (np = ((l.take k).flatMap Fm.ps).length) ∧ w.grows wj ∧ wj.row w.heap.size = some (.cells (formC (zs 0) (.slice none 0 0)).toArray 30) ∧ wj.row o = some (.cells (formC (addF (l.take k)).us (.slice ap np cp)).toArray 30) ∧ Hid (OwnAt wj (o + 1) 76 2 (PartR (FormOk w S) w S) (.slice ap np cp) ((l.take k).flatMap Fm.ps)))
  case atStart => exact ⟨0, none, 0, 0, rfl, Nat.zero_le _, rfl, rfl, (by repeat (with_reducible first | assumption | exact grA | apply grB | apply grC | apply grD | refine grE ?_ (by omega) _ | refine grF ?_ (by omega) _ _)), by simp [go_sem, ho, ne1, ne2]; rfl, by simp [go_sem, ho, ne1, ne2]; rfl, OwnAt_nil _ _ _ _ _⟩
  case round =>
    obtain ⟨k, ap, np, cp, HK, hk, rfl, HN, hg, hx, hy, HW⟩ := hrel
    have z1 := row_sz' hx; have z2 := row_sz' hy
    by_cases hlt : k < l.length
    · clear ho x1
      rcases HE.out with h | ⟨g, off, rfl, hSg, hcell⟩
      · rw [h] at hlt; cases hlt
      obtain ⟨cs', hl15, hel, hok⟩ := hcell k l[k] (by simp [hlt])
      have he := hel.grows hg
      unfold eltAt at he
      rw [hl15] at he
      have zr := lt_sz (hel.grows hg).lt
      have e3 : segOk (off + k * 15) 15 (wr.row g) = true := he.1
      have e4 : segV (off + k * 15) 15 (wr.row g) = .agg cs'.toArray := he.2
      have htk : (l.take (k + 1)).flatMap Fm.ps = (l.take k).flatMap Fm.ps ++ l[k].ps := by
        rw [List.take_succ_eq_append_getElem hlt, List.flatMap_append]; simp
      have hle : ((l.take (k + 1)).flatMap Fm.ps).length ≤ 33554432 := Nat.le_trans (take_flat_le l _ _) HP.out
      have hnl := HN.out
      rw [htk, List.length_append, ← hnl] at hle
      have hst : ∀ i, i < 7 → (k = 0 → uGet (addF (l.take (k + 1))).us i = l[k].u i) ∧ (k ≠ 0 → foldQ (0, 1) addQ [uGet (addF (l.take k)).us i, l[k].u i] = uGet (addF (l.take (k + 1))).us i) :=
        fun i hi => ⟨fun h0 => by subst h0; exact addF_first hlt (HM.out _ (List.getElem_mem hlt)) hi, fun h0 => addF_next h0 hlt HM.out hi⟩
      have hA' := addF_len (l.take (k + 1)); have hA := addF_len (l.take k)
      have hb' := HAB.out (k + 1); have hb := HAB.out k
      generalize hAe : (addF (l.take (k + 1))).us = A' at *
      have HAE := Lib.hid hAe; clear hAe
      generalize (addF (l.take k)).us = A at *
      have hfk := HF.out _ (List.getElem_mem hlt)
      generalize l[k] = f at *
      obtain ⟨us, ps⟩ := f
      obtain ⟨hu7, hub, v', rfl, hps'⟩ := FormOk_us hok
      obtain ⟨a', c', rfl, hn1, hn2⟩ := hps'.len
      have hst' : ∀ i, i < 7 → (k = 0 → uGet A' i = uGet us i) ∧ (k ≠ 0 → foldQ (0, 1) addQ [uGet A i, uGet us i] = uGet A' i) := hst
      have HST := Lib.hid hst'; have HSL := Lib.hid hps'; have HTK := Lib.hid htk; have HNL := Lib.hid hnl; have HB := Lib.hid hb; have HB' := Lib.hid hb'; have HUB := Lib.hid hub
      change np + ps.length ≤ 33554432 at hle
      clear hst hst' hel he hok hcell hps' hl15 htk hnl hb hb' hfk hub
      generalize hbe : wr.heap.size = bb at *
      have hbo : o < bb := z2.1
      have nb1 : (bb = o) = False := by apply eq_false; omega
      have nb2 : (o = bb) = False := by apply eq_false; omega
      have nb3 : (bb = w.heap.size) = False := by apply eq_false; omega
      have nb4 : (w.heap.size = bb) = False := by apply eq_false; omega
      go_wp2_with fail
      go_loopg [15] 7 (fun gn v15 wj => ∃ u : Nat, Hid (gn + u = 7) ∧ u ≤ 7 ∧ v15 = .int .i64 u ∧ w.grows wj ∧ wj.row w.heap.size = some (.cells (formC (zs 0) (.slice none 0 0)).toArray 30) ∧ wj.row o = some (.cells (formC (mixU A' A u) (.slice ap np cp)).toArray 30) ∧ wj.row bb = some (.cells (formC us (.slice a' ps.length c')).toArray 30) ∧ Hid (OwnAt wj (o + 1) 76 2 (PartR (FormOk w S) w S) (.slice ap np cp) ((l.take k).flatMap Fm.ps)))
      case atStart => exact ⟨0, rfl, by omega, rfl, (by repeat (with_reducible first | assumption | exact grA | apply grB | apply grC | apply grD | refine grE ?_ (by omega) _ | refine grF ?_ (by omega) _ _)), by simp [go_sem, hx, z1, hbe, nb4], by rw [mixU_zero hA]; simp [go_sem, hy, z2, hbe, nb2], by simp [go_sem, hbe], HW.mono (by repeat (with_reducible first | assumption | exact grA | apply grB | apply grC | apply grD | refine grE ?_ (by omega) _ | refine grF ?_ (by omega) _ _)) (fun _ _ _ h => h)⟩
      case round =>
        clear hx hy z1 z2 hg HW e3 e4 zr hbe
        obtain ⟨u, HK2, hu, rfl, hg, hx, hy, hz, HW⟩ := hrel
        have z1 := row_sz' hx; have z2 := row_sz' hy; have z3 := row_sz' hz
        by_cases hu7' : u < 7
        · have hget : segV (u * 2) 2 (some (.cells (formC us (.slice a' ps.length c')).toArray 30)) = ratV (uGet us u) := by rw [uGet_eq (by omega)]; exact formC_get (by omega)
          have hgetA : segV (u * 2) 2 (some (.cells (formC (mixU A' A u) (.slice ap np cp)).toArray 30)) = ratV (uGet A u) := by
            have := formC_get (us := mixU A' A u) (v := .slice ap np cp) (i := u) (by rw [mixU_len]; exact hu7') (t := 30) (fr := (0, 0))
            rw [this, ← uGet_eq, mixU_get hu7']
          have hset : setL (formC (mixU A' A u) (.slice ap np cp)).toArray (u * 2) [.int .i64 (uGet A' u).1, .int .i64 (uGet A' u).2] = (formC (mixU A' A (u + 1)) (.slice ap np cp)).toArray := by
            have := formC_set (us := mixU A' A u) (v := .slice ap np cp) (i := u) (by rw [mixU_len]; exact hu7') (uGet A' u)
            rw [mixU_set hu7' rfl] at this; exact this
          have hub := uGet_bd HUB.out u
          have hAb := uGet_bd HB.out u
          have hs := HST.out u hu7'
          have hi2 : u * 2 + 2 ≤ 15 := by omega
          have hML : (mixU A' A u).length = 7 := mixU_len _ _ _
          have HSET := Lib.hid hset; clear hset
          generalize uGet us u = q at *
          generalize uGet A' u = r at *
          generalize uGet A u = p at *
          obtain ⟨q1, q2⟩ := q
          obtain ⟨r1, r2⟩ := r
          obtain ⟨p1, p2⟩ := p
          by_cases hk0 : k = 0
          · have e := hs.1 hk0
            injection e with e1 e2
            subst e1; subst e2
            have hk1 : ((k : Int) == 0) = true := by simpa using hk0
            clear hs hk0
            go_wp2_with fail
            go_roundg (7 - (u + 1))
            case rel => exact ⟨u + 1, Lib.hid (by omega), by omega, by go_num, (by repeat (with_reducible first | assumption | exact grA | apply grB | apply grC | apply grD | refine grE ?_ (by omega) _ | refine grF ?_ (by omega) _ _)), by simp [go_sem, hx, z1, ne1, ne2], by simp [go_sem, hy, z2, HSET.out], by simp [go_sem, hz, z3, nb1, nb2], Lib.hid (HW.out.grow_set (by repeat (with_reducible first | assumption | exact grA | apply grB | apply grC | apply grD | refine grE ?_ (by omega) _ | refine grF ?_ (by omega) _ _)) (by omega))⟩
            case measure => have := HK2.out; omega
          · have e := hs.2 hk0
            have hk1 : ((k : Int) == 0) = false := by simpa using hk0
            have m1 : ∀ W G, W.row G = some (.cells #[.int .i64 p1, .int .i64 p2, .int .i64 q1, .int .i64 q2] 23) → Calls Try.prog 43 #[.slice (some ⟨G, 0, none⟩) 2 2] W (Gives W (ratV (r1, r2))) :=
              fun W G h => e ▸ refAddL_any _ _ W (rats2 h hAb hub)
            have M1 := Lib.hid m1
            clear hs hk0 e m1 hAb hub
            go_wp2_with fail
            refine wp_region_plus_seq_tail 13 (by kernel_rfl) (by kernel_rfl) (fun x0 => ?_)
            simp only [List.take_succ_cons, List.take_zero, List.drop_succ_cons, List.drop_zero]
            repeat (any_goals (first | (refine wpSeqL_free rfl ?_; first | (go_big_quiet_skip; refine wpQuiet_nil ?_) | (go_big_quiet_step (fail); refine wpQuiet_nil ?_) | (refine wpQuiet_step (fun K hK => ?_); go_simp; split <;> (refine hK _ ?_; clear hK K; refine wpQuiet_nil ?_))) | (refine wpSeqL_link rfl (fun K hK => ?_); go_simp; first | first | (refine hK _ _ (by show World.grows _ _; repeat (first | assumption | exact grA | apply grB | apply grC | apply grD)) ?_; clear hK K) | (((first | (go_at_call 43; (with_reducible refine (M1.out _ _ ?_).mono ?_); (simp [go_sem, hx, hy, hz, z1, z2, z3]); rintro e w1 ⟨rfl, x1, rfl⟩))); refine ⟨_, rfl, hK _ _ (by show World.grows _ _; repeat (first | assumption | exact grA | apply grB | apply grC | apply grD)) ?_⟩; clear hK K) | (split <;> (first | (refine hK _ _ (by show World.grows _ _; repeat (first | assumption | exact grA | apply grB | apply grC | apply grD)) ?_; clear hK K) | (((first | (go_at_call 43; (with_reducible refine (M1.out _ _ ?_).mono ?_); (simp [go_sem, hx, hy, hz, z1, z2, z3]); rintro e w1 ⟨rfl, x1, rfl⟩))); refine ⟨_, rfl, hK _ _ (by show World.grows _ _; repeat (first | assumption | exact grA | apply grB | apply grC | apply grD)) ?_⟩; clear hK K))))))
            all_goals (refine wpSeqL_end ?_)
            go_wp2_with fail
            go_roundg (7 - (u + 1))
            case rel => exact ⟨u + 1, Lib.hid (by omega), by omega, by go_num, (by repeat (with_reducible first | assumption | exact grA | apply grB | apply grC | apply grD | refine grE ?_ (by omega) _ | refine grF ?_ (by omega) _ _)), by simp [go_sem, hx, z1, ne1, ne2], by simp [go_sem, hy, z2, HSET.out], by simp [go_sem, hz, z3, nb1, nb2], Lib.hid ((OwnAt.setIn (o := o) HW.out (by omega)).mono (by repeat (with_reducible first | assumption | exact grA | apply grB | apply grC | apply grD | refine grE ?_ (by omega) _ | refine grF ?_ (by omega) _ _)) (fun _ _ _ h => h))⟩
            case measure => have := HK2.out; omega
        · obtain rfl : u = 7 := by omega
          rw [mixU_all hA'] at hy
          have z2 := row_sz' hy
          obtain ⟨_, css', k1, k2, k3, k4⟩ := HSL.out.cells (by omega)
          have k4' : ∀ W, w.grows W → (ps.length = 0 ∨ ∃ ad, a' = some ad ∧ ∀ j u, css'.flatten[j]? = some u → W.cell? (ad.add j) = some u) := fun W hW => by
            rcases k4 with h | ⟨ad, e, h⟩
            · exact .inl h
            · exact .inr ⟨ad, e, fun j u hj => hW.cell_eq (h j u hj)⟩
          have h1 := parts_one k1 k2
          obtain ⟨css, o1, o2, o3⟩ := HW.out
          rw [← HNL.out] at o3
          have K4 := Lib.hid k4'; have H1 := Lib.hid h1; have O3 := Lib.hid o3; have K2 := Lib.hid k2; have O2 := Lib.hid o2; have K3 := Lib.hid k3; have K1 := Lib.hid k1; have O1 := Lib.hid o1
          clear k1 k2 k3 k4 k4' h1 o1 o2 o3 HW HK2 hu hu7'
          go_wp2_with (first | ((at_builtin; refine wpList_appS w (o + 1) rfl (.tmp 42) (.tmp 44) _ rfl 76 (.agg #[.bool false, .slice none 0 0]) 2 32 Try.underlying28 (by kernel_rfl) rfl (by omega) (by omega) _ np _ rfl (O3.out.grows (by repeat (with_reducible first | assumption | exact grA | apply grB | apply grC | apply grD | refine grE ?_ (by omega) _ | refine grF ?_ (by omega) _ _))) _ ps.length _ css'.flatten rfl K3.out (K4.out _ (by repeat (with_reducible first | assumption | exact grA | apply grB | apply grC | apply grD | refine grE ?_ (by omega) _ | refine grF ?_ (by omega) _ _))) H1.out (by omega) (by repeat (with_reducible first | assumption | exact grA | apply grB | apply grC | apply grD | refine grE ?_ (by omega) _ | refine grF ?_ (by omega) _ _)) (by omega) (by omega) ?_; intro v' w' hg' HO' HR' HG' HA'); obtain ⟨a2, c2, rfl⟩ := own_slice HO'.out; have hy' : w'.row o = some (.cells (formC A' (.slice ap np cp)).toArray 30) := (HR'.out _ (by omega)).trans (by simp [go_sem, hy, z2]); have hx' : w'.row w.heap.size = some (.cells (formC (zs 0) (.slice none 0 0)).toArray 30) := (HR'.out _ (by omega)).trans (by simp [go_sem, hx, z1]); have zy' := row_sz' hy'; have zx' := row_sz' hx'))
          go_roundg (l.length - (k + 1))
          case rel => exact ⟨k + 1, a2, np + ps.length, c2, Lib.hid (by omega), by omega, by go_num, Lib.hid (by rw [HTK.out, List.length_append, ← HNL.out]; rfl), (by repeat (with_reducible first | assumption | exact grA | apply grB | apply grC | apply grD | refine grE ?_ (by omega) _ | refine grF ?_ (by omega) _ _)), by simp [go_sem, hx', hy', ne1, ne2], by simp [go_sem, hy', hA', HAE.out], Lib.hid (by
            rw [HTK.out]
            have hown := HO'.out.row_kept (W := w'.setCell ⟨o, 14, none⟩ (.slice a2 (np + ps.length) c2)) (fun g hg1 _ => by rw [World.row_setCell, if_neg (by omega)])
            exact OwnAt.append O1.out O2.out K1.out K2.out (fun _ _ h => h) (by rw [← HNL.out]; exact hown))⟩
          case measure => have := HK.out; omega
    · obtain rfl : k = l.length := by omega
      have hW := HW.out
      have hN := HN.out
      rw [List.take_length] at hW hN hy
      have hnp : np = (addF l).ps.length := hN
      have hsl := hW.slAt (S := fun g => o + 1 ≤ g) (by omega) (fun g hg0 => by
        obtain ⟨css, _, _, ho⟩ := hW
        exact (ho.lt g hg0).1)
      have h2 := addF_bd (fun f hf => (HF.out f hf).2)
      have hU := addF_len l
      have eU : (addF l).us = (addF l).us := rfl
      generalize hUU : (addF l).us = U at *
      have H2 := Lib.hid h2; have HSL := Lib.hid hsl; have HNP := Lib.hid hnp; have EU := Lib.hid hUU
      clear hW hsl h2 HW HN hN hnp eU hUU
      have z2 := row_sz' hy
      go_wp2_with fail
      (with_reducible show bodyPost _ _ _ _ _ _); exact ret_30 rfl rfl (by simp [go_sem, hx, hy, z1, z2, ne1, ne2, hU]) rfl ⟨ap, cp, (by simp [go_sem, hx, hy, z1, z2, ne1, ne2, hU, EU.out, HNP.out]), (by repeat (with_reducible first | assumption | exact grA | apply grB | apply grC | apply grD | refine grE ?_ (by omega) _ | refine grF ?_ (by omega) _ _)), (EU.out ▸ hU), (EU.out ▸ H2.out), HNP.out ▸ HSL.out.keep (fun g h1 _ => ⟨by rw [World.row_setRow, if_neg (by omega)], HS.out g (by omega)⟩) (fun x _ cs ⟨v', e, h⟩ => ⟨v', e, h.grows (by repeat (with_reducible first | assumption | exact grA | apply grB | apply grC | apply grD | refine grE ?_ (by omega) _ | refine grF ?_ (by omega) _ _)) (fun f _ cs hf => hf.grows (by repeat (with_reducible first | assumption | exact grA | apply grB | apply grC | apply grD | refine grE ?_ (by omega) _ | refine grF ?_ (by omega) _ _)))⟩)⟩
end Go.Proofs.Ythmicnjigfcljaa

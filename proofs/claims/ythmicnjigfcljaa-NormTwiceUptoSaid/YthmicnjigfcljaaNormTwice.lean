/- For any two expressions whose values are no more than 1048576 in number the statement NormTwice answers true: sums go both ways, but for the order of parts; the pick of a plain form and itself is it, if it has one unit at most. -/
import Derived.Test.YthmicnjigfcljaaRows
import Derived.Test.YthmicnjigfcljaaTwoP
import Derived.Test.YthmicnjigfcljaaAll
import Derived.Test.YthmicnjigfcljaaSame
import Derived.Test.YthmicnjigfcljaaMp
import Derived.Test.YthmicnjigfcljaaOpenX
import Derived.Test.YthmicnjigfcljaaFlt
import Derived.JoinedCond
set_option linter.unusedSimpArgs false
set_option linter.unusedVariables false
namespace Go
open Go.RowKit
theorem foldl_setL30 : ∀ (l : List Value) (k : Nat) (z : Array Value), (l.zipIdx k).foldl (fun cs x => cs.setIfInBounds (30 + x.snd) x.fst) z = setL z (30 + k) l
  | [], _, _ => rfl
  | x :: l, k, z => by
    rw [List.zipIdx_cons, List.foldl_cons]
    exact foldl_setL30 l (k + 1) _
@[go_sem] theorem foldl_zip15_size {l : List Value} {z : Array Value} : (l.zipIdx.foldl (fun cs x => cs.setIfInBounds (15 + x.snd) x.fst) z).size = z.size := by
  rw [foldl_setL15, setL_size]
@[go_sem] theorem foldl_zip3 {l l' l'' : List Value} {z : Array Value} (h1 : l.length = 15) (h2 : l'.length = 15) (h : z.size = 30 + l''.length) : l''.zipIdx.foldl (fun cs x => cs.setIfInBounds (30 + x.snd) x.fst) (l'.zipIdx.foldl (fun cs x => cs.setIfInBounds (15 + x.snd) x.fst) (l.zipIdx.foldl (fun cs x => cs.setIfInBounds x.snd x.fst) z)) = (l ++ (l' ++ l'')).toArray := by
  rw [foldl_setL, foldl_setL15, foldl_setL30]
  have hz : z.toList.length = 30 + l''.length := by simpa using h
  have e1 := setL_list l [] (z.toList.take 15) (z.toList.drop 15) (by rw [List.length_take, hz, h1]; omega)
  simp only [List.nil_append, List.take_append_drop, List.length_nil] at e1
  have e0 : z = z.toList.toArray := by simp
  rw [← e0] at e1
  rw [e1]
  have e2 := setL_list l' l ((z.toList.drop 15).take 15) ((z.toList.drop 15).drop 15) (by rw [List.length_take, List.length_drop, hz, h2]; omega)
  rw [List.take_append_drop, h1] at e2
  rw [e2]
  have e3 := setL_list l'' (l ++ l') ((z.toList.drop 15).drop 15) [] (by rw [List.length_drop, List.length_drop, hz]; omega)
  rw [List.append_nil, List.append_nil, List.length_append, h1, h2, List.append_assoc, List.append_assoc] at e3
  exact e3
theorem szM_two (f g : Fm) : szM [f, g] = szF f + szF g := by simp [szM]
theorem slAt_three_self {W : World} {S : Nat → Prop} {g : Nat} {t : TypeId} {f : Fm} {cs : List Value} (hr : W.row g = some (.cells (cs ++ (cs ++ cs)).toArray t)) (hS : S g) (h : FormOk W S f cs) :
    SlAt W S 15 (FormOk W S) (.slice (some ⟨g, 0, none⟩) 3 3) [f, f, f] := by
  have l1 := h.len
  refine ⟨_, 3, rfl, by simp, by omega, .inr ⟨g, 0, rfl, hS, fun i x hx => ?_⟩⟩
  have hil := (List.getElem?_eq_some_iff.1 hx).1
  have h3 : i < 3 := hil
  rcases (by omega : i = 0 ∨ i = 1 ∨ i = 2) with rfl | rfl | rfl
  all_goals (obtain rfl : f = x := by simpa using hx)
  all_goals refine ⟨cs, l1, ⟨?_, ?_⟩, h⟩
  · rw [hr]; show decide _ = true; simp [l1]
  · rw [hr]; show Value.agg _ = _
    congr 1
    apply Array.ext'
    simp
  · rw [hr]; show decide _ = true; simp [l1]
  · rw [hr]; show Value.agg _ = _
    congr 1
    apply Array.ext'
    simp [l1]
  · rw [hr]; show decide _ = true; simp [l1]
  · rw [hr]; show Value.agg _ = _
    congr 1
    apply Array.ext'
    have e : (cs ++ (cs ++ cs)).drop 30 = cs := by rw [← List.append_assoc, List.drop_append_of_le_length (by simp [l1]), List.drop_of_length_le (by simp [l1]), List.nil_append]
    rw [Array.toList_extract]
    simp only [List.extract_eq_take_drop]
    rw [show 0 + 2 * 15 = 30 by omega, e, List.take_of_length_le (by omega)]
end Go
namespace Go.Proofs.Ythmicnjigfcljaa
open Go.ChangeShapes Go.WideShapes Go.ChangeAt Go.RowKit

/-- the sum of two, either way about: units and number of parts are the same -/
theorem addTwo_any (F G : Fm) (hsz : szF F + szF G ≤ 4194302) : ∃ (U : List (Int × Int)) (N : Nat), U.length = 7 ∧
    (∀ W g0 vf vg, FormOk W (fun _ => True) F (formC F.us vf) → FormOk W (fun _ => True) G (formC G.us vg) → W.row g0 = some (.cells (formC F.us vf ++ formC G.us vg).toArray 30) → Calls Try.prog 36 #[.slice (some ⟨g0, 0, none⟩) 2 2] W (fun e w' => ∃ a c, e = .returned (.agg (formC U (.slice a N c)).toArray) ∧ W.grows w')) ∧
    (∀ W g0 vf vg, FormOk W (fun _ => True) F (formC F.us vf) → FormOk W (fun _ => True) G (formC G.us vg) → W.row g0 = some (.cells (formC G.us vg ++ formC F.us vf).toArray 30) → Calls Try.prog 36 #[.slice (some ⟨g0, 0, none⟩) 2 2] W (fun e w' => ∃ a c, e = .returned (.agg (formC U (.slice a N c)).toArray) ∧ W.grows w')) := by
  have hall : [G, F].all (mayF 340) = [F, G].all (mayF 340) := by simp [Bool.and_comm]
  have e1 : (if [G, F].all (mayF 340) then addF [G, F] else zeroF).us = (if [F, G].all (mayF 340) then addF [F, G] else zeroF).us := by
    rw [hall]; split
    · exact addF_comm_us G F
    · rfl
  have e2 : (if [G, F].all (mayF 340) then addF [G, F] else zeroF).ps.length = (if [F, G].all (mayF 340) then addF [F, G] else zeroF).ps.length := by
    rw [hall]; split
    · exact addF_comm_ps G F
    · rfl
  refine ⟨(if [F, G].all (mayF 340) then addF [F, G] else zeroF).us, (if [F, G].all (mayF 340) then addF [F, G] else zeroF).ps.length, ?_, ?_, ?_⟩
  · split
    · simp [addF, Fm.us]
    · exact zeroU_len
  · intro W g0 vf vg hf hg hr
    exact (normAdd_any [F, G] _ W (slAt_two hr trivial hf hg) (by simp) (by rw [szM_two]; omega)).mono fun e w' ⟨a, c, h1, h2, _⟩ => ⟨a, c, h1, h2⟩
  · intro W g0 vf vg hf hg hr
    refine (normAdd_any [G, F] _ W (slAt_two hr trivial hg hf) (by simp) (by rw [szM_two]; omega)).mono fun e w' ⟨a, c, h1, h2, _⟩ => ⟨a, c, ?_, h2⟩
    rw [h1, e1, e2]
/-- the pick of a plain form and itself -/
theorem pickTwo_any (us : List (Int × Int)) (hu : us.length = 7) (hm : mayUF (.mk us [])) (hc : cntU us 7 ≤ 1) (W : World) (g0 : Nat) (v : Value) (hf : FormOk W (fun _ => True) (.mk us []) (formC us v)) (hr : W.row g0 = some (.cells (formC us v ++ formC us v).toArray 30)) :
    Calls Try.prog 38 #[.bool true, .slice (some ⟨g0, 0, none⟩) 2 2] W (FormP W (fun g => W.heap.size ≤ g) (.mk us [])) := by
  have h := normPick_any true (List.replicate 2 (.mk us [])) _ W (slAt_two hr trivial hf hf) (by simp) (by simp [List.replicate, szM, szF, szP]) (by simp)
  rw [pickF_self hu hm hc true 1, if_pos (by simp [mayF_plain hm])] at h
  exact h
theorem pickThree_any (us : List (Int × Int)) (hu : us.length = 7) (hm : mayUF (.mk us [])) (hc : cntU us 7 ≤ 1) (W : World) (g0 : Nat) (v : Value) (hf : FormOk W (fun _ => True) (.mk us []) (formC us v)) (hr : W.row g0 = some (.cells (formC us v ++ (formC us v ++ formC us v)).toArray 30)) :
    Calls Try.prog 38 #[.bool false, .slice (some ⟨g0, 0, none⟩) 3 3] W (FormP W (fun g => W.heap.size ≤ g) (.mk us [])) := by
  have h := normPick_any false (List.replicate 3 (.mk us [])) _ W (slAt_three_self hr trivial hf) (by simp) (by simp [List.replicate, szM, szF, szP]) (by simp)
  rw [pickF_self hu hm hc false 2, if_pos (by simp [mayF_plain hm])] at h
  exact h

set_option maxRecDepth 100000 in
set_option maxHeartbeats 8000000 in
theorem normTwice_yes (ma mb : Nat) (ta tb : Ex) (csa csb : List Value) (w : World) (ha : ExAt w ma ta csa) (hb : ExAt w mb tb csb) (hsz : szE ma ta + szE mb tb + 2 ≤ 1048576) (h0a : askE ma ta 2 = 0) (h0b : askE mb tb 2 = 0) :
    Calls Try.prog 10 #[.agg csa.toArray, .agg csb.toArray] w (Gives w (.bool true)) := by
  have c1 : ∀ W, w.grows W → Calls Try.prog 16 #[.agg csa.toArray] W (FormT W (fun _ => True) (formE ma ta)) := fun W hW => normForm_ok ma ta csa W (fun _ => True) (fun _ _ => trivial) (ha.grows hW) h0a (by omega)
  have c2 : ∀ W, w.grows W → Calls Try.prog 16 #[.agg csb.toArray] W (FormT W (fun _ => True) (formE mb tb)) := fun W hW => normForm_ok mb tb csb W (fun _ => True) (fun _ _ => trivial) (hb.grows hW) h0b (by omega)
  have sa := szF_formE ma 340 ta (ask_zero h0a).1
  have sb := szF_formE mb 340 tb (ask_zero h0b).1
  have mya := formE_may ma 340 ta (ask_zero h0a).1
  have hsF : szF (formE ma ta) + szF (formE mb tb) ≤ 4194302 := by omega
  generalize formE ma ta = F at *
  generalize formE mb tb = G at *
  obtain ⟨p0, p1, p2, p3, pa, pl, pc, rfl⟩ := ExAt_vals ha
  obtain ⟨q0, q1, q2, q3, qa, ql, qc, rfl⟩ := ExAt_vals hb
  obtain ⟨U, N, hU, c3, c4⟩ := addTwo_any F G hsF
  have C1 := Lib.hid c1; have C2 := Lib.hid c2; have C3 := Lib.hid c3; have C4 := Lib.hid c4; have MY := Lib.hid mya
  clear c1 c2 c3 c4 ha hb hsz h0a h0b sa sb hsF mya
  go_enter Try.func10, Try.ntmps10
  go_upto_region 5 with (first | (go_at_call 16; (with_reducible refine (C1.out _ (by repeat (with_reducible first | assumption | exact grA | apply grB | apply grC | apply grD | refine grE ?_ (by omega) _ | refine grF ?_ (by omega) _ _))).mono ?_); rintro e w1 ⟨a5, c5, rfl, hg5, h57, h5b, h5s⟩; have hgw1 : w.grows w1 := World.grows.trans (by repeat (with_reducible first | assumption | exact grA | apply grB | apply grC | apply grD | refine grE ?_ (by omega) _ | refine grF ?_ (by omega) _ _)) hg5; have rb := hg5.row_eq (g := w.heap.size + 1) (by simp); simp [go_sem] at rb; have tb := row_sz' rb; have H5B := Lib.hid h5b; have H5S := Lib.hid h5s; clear h5b h5s hg5) | (go_at_call 16; (with_reducible refine (C2.out _ (by repeat (with_reducible first | assumption | exact grA | apply grB | apply grC | apply grD | refine grE ?_ (by omega) _ | refine grF ?_ (by omega) _ _))).mono ?_); rintro e w2 ⟨a6, c6, rfl, hg6, h67, h6b, h6s⟩; have hrw2 : w1.grows w2 := World.grows.trans (by repeat (with_reducible first | assumption | exact grA | apply grB | apply grC | apply grD | refine grE ?_ (by omega) _ | refine grF ?_ (by omega) _ _)) hg6; have hgw2 : w.grows w2 := World.grows.trans hgw1 hrw2; have rf := hg6.row_eq (g := w1.heap.size) (by simp); simp [go_sem] at rf; have tf := row_sz' rf; have H6B := Lib.hid h6b; have H6S := Lib.hid h6s; clear h6b h6s hg6))
  have hF0 := (FormOk_of_parts h57 H5B.out H5S.out).grows hrw2
  have hG0 := FormOk_of_parts h67 H6B.out H6S.out
  refine abs_rows (w := w2) (G := fun W => Code.wp _ _ _ _ W) (by repeat (with_reducible first | assumption | exact grA | apply grB | apply grC | apply grD | refine grE ?_ (by omega) _ | refine grF ?_ (by omega) _ _)) [(w1.heap.size, .cells (formC F.us (.slice a5 F.ps.length c5)).toArray 30), (w2.heap.size, .cells (formC G.us (.slice a6 G.ps.length c6)).toArray 30)] (by simp [go_sem, *]) ?_
  intro V gV hl
  simp only [List.forall_mem_cons, List.not_mem_nil, false_implies, implies_true, and_true] at hl
  obtain ⟨hx, hy⟩ := hl
  have zx := row_sz' hx; have zy := row_sz' hy
  have HF' := Lib.hid (hF0.grows gV); have HG' := Lib.hid (hG0.grows gV)
  have hwV : w.grows V := hgw2.trans gV
  have lx := zx.1; have ly := zy.1
  clear hF0 hG0 rb tb rf tf C1 C2 H5B H5S H6B H6S hgw1 hgw2 hrw2
  go_cut [9, 10] (fun s9 s10 wx => ∃ (p q : Nat) (a : Option Addr) (c : Nat) (a' : Option Addr) (c' : Nat), s9 = .pointer (some ⟨p, 0, none⟩) ∧ s10 = .pointer (some ⟨q, 0, none⟩) ∧ wx.row p = some (.cells (formC U (.slice a N c)).toArray 30) ∧ wx.row q = some (.cells (formC U (.slice a' N c')).toArray 30) ∧
    wx.row w1.heap.size = some (.cells (formC F.us (.slice a5 F.ps.length c5)).toArray 30) ∧ V.grows wx)
  case first =>
    obtain ⟨J, hJd⟩ : ∃ J : Act → World → (Nat → Bool) → Act → World → Prop, J = (fun a0 w0 L a' W => ∃ (g33 : Nat) (a34 : Option Addr) (c34 : Nat) (g37 : Nat) (a38 : Option Addr) (c38 : Nat) (g9 : Nat) (g10 : Nat), Fr a0 [31, 32, 33, 34, 35, 36, 37, 38, 9, 10] a' ∧ w0.grows W ∧ (L 0 = true → a'.tmps.getD 31 undef = .agg (formC F.us (.slice a5 F.ps.length c5)).toArray) ∧ (L 1 = true → a'.tmps.getD 32 undef = .agg (formC G.us (.slice a6 G.ps.length c6)).toArray) ∧ (L 2 = true → a'.tmps.getD 33 undef = .slice (some ⟨g33, 0, none⟩) 2 2 ∧ w0.heap.size ≤ g33 ∧ g33 < W.heap.size ∧ W.row g33 = some (.cells ((formC F.us (.slice a5 F.ps.length c5)) ++ (formC G.us (.slice a6 G.ps.length c6))).toArray 30)) ∧ (L 3 = true → a'.tmps.getD 34 undef = .agg (formC U (.slice a34 N c34)).toArray) ∧ (L 4 = true → a'.tmps.getD 35 undef = .agg (formC G.us (.slice a6 G.ps.length c6)).toArray) ∧ (L 5 = true → a'.tmps.getD 36 undef = .agg (formC F.us (.slice a5 F.ps.length c5)).toArray) ∧ (L 6 = true → a'.tmps.getD 37 undef = .slice (some ⟨g37, 0, none⟩) 2 2 ∧ w0.heap.size ≤ g37 ∧ g37 < W.heap.size ∧ W.row g37 = some (.cells ((formC G.us (.slice a6 G.ps.length c6)) ++ (formC F.us (.slice a5 F.ps.length c5))).toArray 30)) ∧ (L 7 = true → a'.tmps.getD 38 undef = .agg (formC U (.slice a38 N c38)).toArray) ∧ (L 8 = true → a'.tmps.getD 9 undef = .pointer (some ⟨g9, 0, none⟩) ∧ w0.heap.size ≤ g9 ∧ g9 < W.heap.size ∧ ∃ cs : Array Value, cs.size = 15 ∧ (L 10 = true → cs = (formC U (.slice a34 N c34)).toArray) ∧ W.row g9 = some (.cells cs 30)) ∧ (L 9 = true → a'.tmps.getD 10 undef = .pointer (some ⟨g10, 0, none⟩) ∧ w0.heap.size ≤ g10 ∧ g10 < W.heap.size ∧ ∃ cs : Array Value, cs.size = 15 ∧ (L 11 = true → cs = (formC U (.slice a38 N c38)).toArray) ∧ W.row g10 = some (.cells cs 30)) ∧ (L 10 = true → L 8 = true) ∧ (L 11 = true → L 9 = true) ∧ (L 2 = true → L 6 = true → g33 ≠ g37) ∧ (L 2 = true → L 8 = true → g33 ≠ g9) ∧ (L 2 = true → L 9 = true → g33 ≠ g10) ∧ (L 6 = true → L 8 = true → g37 ≠ g9) ∧ (L 6 = true → L 9 = true → g37 ≠ g10) ∧ (L 8 = true → L 9 = true → g9 ≠ g10)) := ⟨_, rfl⟩
    refine wp_region_inv_lit (by kernel_rfl) (by kernel_rfl) J ?_ ?_ ?_
    · intro L hL
      rw [hJd]
      exact ⟨0, default, default, 0, default, default, 0, 0, Fr.refl, World.grows.refl, (fun h => absurd h (by rw [hL 0 (by decide)]; exact Bool.false_ne_true)), (fun h => absurd h (by rw [hL 1 (by decide)]; exact Bool.false_ne_true)), (fun h => absurd h (by rw [hL 2 (by decide)]; exact Bool.false_ne_true)), (fun h => absurd h (by rw [hL 3 (by decide)]; exact Bool.false_ne_true)), (fun h => absurd h (by rw [hL 4 (by decide)]; exact Bool.false_ne_true)), (fun h => absurd h (by rw [hL 5 (by decide)]; exact Bool.false_ne_true)), (fun h => absurd h (by rw [hL 6 (by decide)]; exact Bool.false_ne_true)), (fun h => absurd h (by rw [hL 7 (by decide)]; exact Bool.false_ne_true)), (fun h => absurd h (by rw [hL 8 (by decide)]; exact Bool.false_ne_true)), (fun h => absurd h (by rw [hL 9 (by decide)]; exact Bool.false_ne_true)), (fun h => absurd h (by rw [hL 10 (by decide)]; exact Bool.false_ne_true)), (fun h => absurd h (by rw [hL 11 (by decide)]; exact Bool.false_ne_true)), (fun h => absurd h (by rw [hL 2 (by decide)]; exact Bool.false_ne_true)), (fun h => absurd h (by rw [hL 2 (by decide)]; exact Bool.false_ne_true)), (fun h => absurd h (by rw [hL 2 (by decide)]; exact Bool.false_ne_true)), (fun h => absurd h (by rw [hL 6 (by decide)]; exact Bool.false_ne_true)), (fun h => absurd h (by rw [hL 6 (by decide)]; exact Bool.false_ne_true)), (fun h => absurd h (by rw [hL 8 (by decide)]; exact Bool.false_ne_true))⟩
    · refine And.intro ?_ (And.intro ?_ (And.intro ?_ (And.intro ?_ (And.intro ?_ (And.intro ?_ (And.intro ?_ (And.intro ?_ (And.intro ?_ (And.intro ?_ (And.intro ?_ (And.intro ?_ trivial)))))))))))
      · intro L a W hL hd hcl hJ K hK
        rw [hJd] at hJ
        obtain ⟨g33, a34, c34, g37, a38, c38, g9, g10, hf, hG, f0, f1, f2, f3, f4, f5, f6, f7, f8, f9, f10, f11, d2_6, d2_8, d2_9, d6_8, d6_9, d8_9⟩ := hJ
        have hn : a.tmps.size = 91 := hf.2.1
        have hgV : World.grows V W := World.grows.trans (by show World.grows _ _; repeat (with_reducible first | assumption | exact grA | apply grB | apply grC | apply grD | refine grE ?_ (by omega) _)) hG
        have e5 := hf.2.2 5 (by decide); have e5q := get_some e5 (by rw [hn]; decide); have e5r := get_eval e5
        skip
        have r1 := hgV.row_eq lx; have r2 := hgV.row_eq ly; rw [hx] at r1; rw [hy] at r2; have zr1 := row_sz' r1; have zr2 := row_sz' r2
        have HF := Lib.hid (And.intro hL (And.intro hd (And.intro hcl (And.intro hn (And.intro hf (And.intro f0 (And.intro f1 (And.intro f2 (And.intro f3 (And.intro f4 (And.intro f5 (And.intro f6 (And.intro f7 (And.intro f8 (And.intro f9 (And.intro f10 (And.intro f11 (And.intro d2_6 (And.intro d2_8 (And.intro d2_9 (And.intro d6_8 (And.intro d6_9 d8_9))))))))))))))))))))))
        clear hL hd hcl hn hf f0 f1 f2 f3 f4 f5 f6 f7 f8 f9 f10 f11 d2_6 d2_8 d2_9 d6_8 d6_9 d8_9
        go_simp
        obtain ⟨hL, hd, hcl, hn, hf, f0, f1, f2, f3, f4, f5, f6, f7, f8, f9, f10, f11, d2_6, d2_8, d2_9, d6_8, d6_9, d8_9⟩ := HF.out
        have hgw : W.grows W := World.grows.refl
        refine hK _ _ ?_
        rw [hJd]
        skip
        exact ⟨g33, a34, c34, g37, a38, c38, g9, g10, (hf.put (by decide)), (hG.trans hgw), (fun _ => (put_same (by rw [hn]; decide))), (fun h => (put_other (by decide)).trans (f1 (by rw [upL_ne L (by decide)] at h; exact h))), (fun h => ⟨(put_other (by decide)).trans (f2 (by rw [upL_ne L (by decide)] at h; exact h)).1, (f2 (by rw [upL_ne L (by decide)] at h; exact h)).2⟩), (fun h => (put_other (by decide)).trans (f3 (by rw [upL_ne L (by decide)] at h; exact h))), (fun h => (put_other (by decide)).trans (f4 (by rw [upL_ne L (by decide)] at h; exact h))), (fun h => (put_other (by decide)).trans (f5 (by rw [upL_ne L (by decide)] at h; exact h))), (fun h => ⟨(put_other (by decide)).trans (f6 (by rw [upL_ne L (by decide)] at h; exact h)).1, (f6 (by rw [upL_ne L (by decide)] at h; exact h)).2⟩), (fun h => (put_other (by decide)).trans (f7 (by rw [upL_ne L (by decide)] at h; exact h))), (fun h => by obtain ⟨h1, h2, h3, cs, h4, h5, h6⟩ := f8 (by rw [upL_ne L (by decide)] at h; exact h); exact ⟨(put_other (by decide)).trans h1, h2, h3, cs, h4, (fun h => h5 (by rw [upL_ne L (by decide)] at h; exact h)), h6⟩), (fun h => by obtain ⟨h1, h2, h3, cs, h4, h5, h6⟩ := f9 (by rw [upL_ne L (by decide)] at h; exact h); exact ⟨(put_other (by decide)).trans h1, h2, h3, cs, h4, (fun h => h5 (by rw [upL_ne L (by decide)] at h; exact h)), h6⟩), (fun h => upL_of (f10 (by rw [upL_ne L (by decide)] at h; exact h))), (fun h => upL_of (f11 (by rw [upL_ne L (by decide)] at h; exact h))), (fun h h2 => d2_6 (by rw [upL_ne L (by decide)] at h; exact h) (by rw [upL_ne L (by decide)] at h2; exact h2)), (fun h h2 => d2_8 (by rw [upL_ne L (by decide)] at h; exact h) (by rw [upL_ne L (by decide)] at h2; exact h2)), (fun h h2 => d2_9 (by rw [upL_ne L (by decide)] at h; exact h) (by rw [upL_ne L (by decide)] at h2; exact h2)), (fun h h2 => d6_8 (by rw [upL_ne L (by decide)] at h; exact h) (by rw [upL_ne L (by decide)] at h2; exact h2)), (fun h h2 => d6_9 (by rw [upL_ne L (by decide)] at h; exact h) (by rw [upL_ne L (by decide)] at h2; exact h2)), (fun h h2 => d8_9 (by rw [upL_ne L (by decide)] at h; exact h) (by rw [upL_ne L (by decide)] at h2; exact h2))⟩
      · intro L a W hL hd hcl hJ K hK
        rw [hJd] at hJ
        obtain ⟨g33, a34, c34, g37, a38, c38, g9, g10, hf, hG, f0, f1, f2, f3, f4, f5, f6, f7, f8, f9, f10, f11, d2_6, d2_8, d2_9, d6_8, d6_9, d8_9⟩ := hJ
        have hn : a.tmps.size = 91 := hf.2.1
        have hgV : World.grows V W := World.grows.trans (by show World.grows _ _; repeat (with_reducible first | assumption | exact grA | apply grB | apply grC | apply grD | refine grE ?_ (by omega) _)) hG
        have e7 := hf.2.2 7 (by decide); have e7q := get_some e7 (by rw [hn]; decide); have e7r := get_eval e7
        skip
        have r1 := hgV.row_eq lx; have r2 := hgV.row_eq ly; rw [hx] at r1; rw [hy] at r2; have zr1 := row_sz' r1; have zr2 := row_sz' r2
        have HF := Lib.hid (And.intro hL (And.intro hd (And.intro hcl (And.intro hn (And.intro hf (And.intro f0 (And.intro f1 (And.intro f2 (And.intro f3 (And.intro f4 (And.intro f5 (And.intro f6 (And.intro f7 (And.intro f8 (And.intro f9 (And.intro f10 (And.intro f11 (And.intro d2_6 (And.intro d2_8 (And.intro d2_9 (And.intro d6_8 (And.intro d6_9 d8_9))))))))))))))))))))))
        clear hL hd hcl hn hf f0 f1 f2 f3 f4 f5 f6 f7 f8 f9 f10 f11 d2_6 d2_8 d2_9 d6_8 d6_9 d8_9
        go_simp
        obtain ⟨hL, hd, hcl, hn, hf, f0, f1, f2, f3, f4, f5, f6, f7, f8, f9, f10, f11, d2_6, d2_8, d2_9, d6_8, d6_9, d8_9⟩ := HF.out
        have hgw : W.grows W := World.grows.refl
        refine hK _ _ ?_
        rw [hJd]
        skip
        exact ⟨g33, a34, c34, g37, a38, c38, g9, g10, (hf.put (by decide)), (hG.trans hgw), (fun h => (put_other (by decide)).trans (f0 (by rw [upL_ne L (by decide)] at h; exact h))), (fun _ => (put_same (by rw [hn]; decide))), (fun h => ⟨(put_other (by decide)).trans (f2 (by rw [upL_ne L (by decide)] at h; exact h)).1, (f2 (by rw [upL_ne L (by decide)] at h; exact h)).2⟩), (fun h => (put_other (by decide)).trans (f3 (by rw [upL_ne L (by decide)] at h; exact h))), (fun h => (put_other (by decide)).trans (f4 (by rw [upL_ne L (by decide)] at h; exact h))), (fun h => (put_other (by decide)).trans (f5 (by rw [upL_ne L (by decide)] at h; exact h))), (fun h => ⟨(put_other (by decide)).trans (f6 (by rw [upL_ne L (by decide)] at h; exact h)).1, (f6 (by rw [upL_ne L (by decide)] at h; exact h)).2⟩), (fun h => (put_other (by decide)).trans (f7 (by rw [upL_ne L (by decide)] at h; exact h))), (fun h => by obtain ⟨h1, h2, h3, cs, h4, h5, h6⟩ := f8 (by rw [upL_ne L (by decide)] at h; exact h); exact ⟨(put_other (by decide)).trans h1, h2, h3, cs, h4, (fun h => h5 (by rw [upL_ne L (by decide)] at h; exact h)), h6⟩), (fun h => by obtain ⟨h1, h2, h3, cs, h4, h5, h6⟩ := f9 (by rw [upL_ne L (by decide)] at h; exact h); exact ⟨(put_other (by decide)).trans h1, h2, h3, cs, h4, (fun h => h5 (by rw [upL_ne L (by decide)] at h; exact h)), h6⟩), (fun h => upL_of (f10 (by rw [upL_ne L (by decide)] at h; exact h))), (fun h => upL_of (f11 (by rw [upL_ne L (by decide)] at h; exact h))), (fun h h2 => d2_6 (by rw [upL_ne L (by decide)] at h; exact h) (by rw [upL_ne L (by decide)] at h2; exact h2)), (fun h h2 => d2_8 (by rw [upL_ne L (by decide)] at h; exact h) (by rw [upL_ne L (by decide)] at h2; exact h2)), (fun h h2 => d2_9 (by rw [upL_ne L (by decide)] at h; exact h) (by rw [upL_ne L (by decide)] at h2; exact h2)), (fun h h2 => d6_8 (by rw [upL_ne L (by decide)] at h; exact h) (by rw [upL_ne L (by decide)] at h2; exact h2)), (fun h h2 => d6_9 (by rw [upL_ne L (by decide)] at h; exact h) (by rw [upL_ne L (by decide)] at h2; exact h2)), (fun h h2 => d8_9 (by rw [upL_ne L (by decide)] at h; exact h) (by rw [upL_ne L (by decide)] at h2; exact h2))⟩
      · intro L a W hL hd hcl hJ K hK
        rw [hJd] at hJ
        obtain ⟨g33, a34, c34, g37, a38, c38, g9, g10, hf, hG, f0, f1, f2, f3, f4, f5, f6, f7, f8, f9, f10, f11, d2_6, d2_8, d2_9, d6_8, d6_9, d8_9⟩ := hJ
        have hn : a.tmps.size = 91 := hf.2.1
        have hgV : World.grows V W := World.grows.trans (by show World.grows _ _; repeat (with_reducible first | assumption | exact grA | apply grB | apply grC | apply grD | refine grE ?_ (by omega) _)) hG
        have p0 := f0 (hd 0 (by kernel_rfl))
        have p1 := f1 (hd 1 (by kernel_rfl))
        have p0q := get_some p0 (by rw [hn]; decide); have p0r := get_eval p0
        have p1q := get_some p1 (by rw [hn]; decide); have p1r := get_eval p1
        skip
        have r1 := hgV.row_eq lx; have r2 := hgV.row_eq ly; rw [hx] at r1; rw [hy] at r2; have zr1 := row_sz' r1; have zr2 := row_sz' r2
        have HF := Lib.hid (And.intro hL (And.intro hd (And.intro hcl (And.intro hn (And.intro hf (And.intro f0 (And.intro f1 (And.intro f2 (And.intro f3 (And.intro f4 (And.intro f5 (And.intro f6 (And.intro f7 (And.intro f8 (And.intro f9 (And.intro f10 (And.intro f11 (And.intro d2_6 (And.intro d2_8 (And.intro d2_9 (And.intro d6_8 (And.intro d6_9 d8_9))))))))))))))))))))))
        clear hL hd hcl hn hf f0 f1 f2 f3 f4 f5 f6 f7 f8 f9 f10 f11 d2_6 d2_8 d2_9 d6_8 d6_9 d8_9
        go_simp
        obtain ⟨hL, hd, hcl, hn, hf, f0, f1, f2, f3, f4, f5, f6, f7, f8, f9, f10, f11, d2_6, d2_8, d2_9, d6_8, d6_9, d8_9⟩ := HF.out
        have hgA : ∀ o, W.grows (W.alloc o) := fun o => World.grows.alloc World.grows.refl o
        refine hK _ _ ?_
        rw [hJd]
        skip
        exact ⟨W.heap.size, a34, c34, g37, a38, c38, g9, g10, (hf.put (by decide)), (hG.trans (hgA _)), (fun h => (put_other (by decide)).trans (f0 (by rw [upL_ne L (by decide)] at h; exact h))), (fun h => (put_other (by decide)).trans (f1 (by rw [upL_ne L (by decide)] at h; exact h))), (fun _ => ⟨(put_same (by rw [hn]; decide)), hG.below.size, (by rw [World.size_alloc]; exact Nat.lt_succ_self _), (by simp [go_sem])⟩), (fun h => (put_other (by decide)).trans (f3 (by rw [upL_ne L (by decide)] at h; exact h))), (fun h => (put_other (by decide)).trans (f4 (by rw [upL_ne L (by decide)] at h; exact h))), (fun h => (put_other (by decide)).trans (f5 (by rw [upL_ne L (by decide)] at h; exact h))), (inv_b (fun h => ⟨(put_other (by decide)).trans (f6 (by rw [upL_ne L (by decide)] at h; exact h)).1, (f6 (by rw [upL_ne L (by decide)] at h; exact h)).2⟩) (hgA _)), (fun h => (put_other (by decide)).trans (f7 (by rw [upL_ne L (by decide)] at h; exact h))), (inv_a (fun h => by obtain ⟨h1, h2, h3, cs, h4, h5, h6⟩ := f8 (by rw [upL_ne L (by decide)] at h; exact h); exact ⟨(put_other (by decide)).trans h1, h2, h3, cs, h4, (fun h => h5 (by rw [upL_ne L (by decide)] at h; exact h)), h6⟩) (hgA _)), (inv_a (fun h => by obtain ⟨h1, h2, h3, cs, h4, h5, h6⟩ := f9 (by rw [upL_ne L (by decide)] at h; exact h); exact ⟨(put_other (by decide)).trans h1, h2, h3, cs, h4, (fun h => h5 (by rw [upL_ne L (by decide)] at h; exact h)), h6⟩) (hgA _)), (fun h => upL_of (f10 (by rw [upL_ne L (by decide)] at h; exact h))), (fun h => upL_of (f11 (by rw [upL_ne L (by decide)] at h; exact h))), (fun h h2 => Ne.symm (Nat.ne_of_lt (f6 (by rw [upL_ne L (by decide)] at h2; exact h2)).2.2.1)), (fun h h2 => Ne.symm (Nat.ne_of_lt (f8 (by rw [upL_ne L (by decide)] at h2; exact h2)).2.2.1)), (fun h h2 => Ne.symm (Nat.ne_of_lt (f9 (by rw [upL_ne L (by decide)] at h2; exact h2)).2.2.1)), (fun h h2 => d6_8 (by rw [upL_ne L (by decide)] at h; exact h) (by rw [upL_ne L (by decide)] at h2; exact h2)), (fun h h2 => d6_9 (by rw [upL_ne L (by decide)] at h; exact h) (by rw [upL_ne L (by decide)] at h2; exact h2)), (fun h h2 => d8_9 (by rw [upL_ne L (by decide)] at h; exact h) (by rw [upL_ne L (by decide)] at h2; exact h2))⟩
      · intro L a W hL hd hcl hJ K hK
        rw [hJd] at hJ
        obtain ⟨g33, a34, c34, g37, a38, c38, g9, g10, hf, hG, f0, f1, f2, f3, f4, f5, f6, f7, f8, f9, f10, f11, d2_6, d2_8, d2_9, d6_8, d6_9, d8_9⟩ := hJ
        have hn : a.tmps.size = 91 := hf.2.1
        have hgV : World.grows V W := World.grows.trans (by show World.grows _ _; repeat (with_reducible first | assumption | exact grA | apply grB | apply grC | apply grD | refine grE ?_ (by omega) _)) hG
        obtain ⟨p2, pl2, ps2, pr2⟩ := f2 (hd 2 (by kernel_rfl)); have pz2 := row_sz' pr2
        have p2q := get_some p2 (by rw [hn]; decide); have p2r := get_eval p2
        skip
        have r1 := hgV.row_eq lx; have r2 := hgV.row_eq ly; rw [hx] at r1; rw [hy] at r2; have zr1 := row_sz' r1; have zr2 := row_sz' r2
        have HF := Lib.hid (And.intro hL (And.intro hd (And.intro hcl (And.intro hn (And.intro hf (And.intro f0 (And.intro f1 (And.intro f2 (And.intro f3 (And.intro f4 (And.intro f5 (And.intro f6 (And.intro f7 (And.intro f8 (And.intro f9 (And.intro f10 (And.intro f11 (And.intro d2_6 (And.intro d2_8 (And.intro d2_9 (And.intro d6_8 (And.intro d6_9 d8_9))))))))))))))))))))))
        clear hL hd hcl hn hf f0 f1 f2 f3 f4 f5 f6 f7 f8 f9 f10 f11 d2_6 d2_8 d2_9 d6_8 d6_9 d8_9
        go_simp
        (go_at_call 36; (with_reducible refine (C3.out W g33 _ _ (HF'.out.grows hgV) (HG'.out.grows hgV) pr2).mono ?_); rintro e w5 ⟨a7, c7, rfl, hg7⟩)
        refine ⟨_, rfl, ?_⟩
        obtain ⟨hL, hd, hcl, hn, hf, f0, f1, f2, f3, f4, f5, f6, f7, f8, f9, f10, f11, d2_6, d2_8, d2_9, d6_8, d6_9, d8_9⟩ := HF.out
        have hgw : W.grows w5 := hg7
        refine hK _ _ ?_
        rw [hJd]
        skip
        exact ⟨g33, a7, c7, g37, a38, c38, g9, g10, (hf.put (by decide)), (hG.trans hgw), (fun h => (put_other (by decide)).trans (f0 (by rw [upL_ne L (by decide)] at h; exact h))), (fun h => (put_other (by decide)).trans (f1 (by rw [upL_ne L (by decide)] at h; exact h))), (inv_b (fun h => ⟨(put_other (by decide)).trans (f2 (by rw [upL_ne L (by decide)] at h; exact h)).1, (f2 (by rw [upL_ne L (by decide)] at h; exact h)).2⟩) hgw), (fun _ => (put_same (by rw [hn]; decide))), (fun h => (put_other (by decide)).trans (f4 (by rw [upL_ne L (by decide)] at h; exact h))), (fun h => (put_other (by decide)).trans (f5 (by rw [upL_ne L (by decide)] at h; exact h))), (inv_b (fun h => ⟨(put_other (by decide)).trans (f6 (by rw [upL_ne L (by decide)] at h; exact h)).1, (f6 (by rw [upL_ne L (by decide)] at h; exact h)).2⟩) hgw), (fun h => (put_other (by decide)).trans (f7 (by rw [upL_ne L (by decide)] at h; exact h))), (inv_a (fun h => by obtain ⟨h1, h2, h3, cs, h4, h5, h6⟩ := f8 (by rw [upL_ne L (by decide)] at h; exact h); exact ⟨(put_other (by decide)).trans h1, h2, h3, cs, h4, (fun h => (absurd ((hcl 10 3 (by decide) (by kernel_rfl) (by rw [upL_ne L (by decide)] at h; exact h)).symm.trans hL) (by decide))), h6⟩) hgw), (inv_a (fun h => by obtain ⟨h1, h2, h3, cs, h4, h5, h6⟩ := f9 (by rw [upL_ne L (by decide)] at h; exact h); exact ⟨(put_other (by decide)).trans h1, h2, h3, cs, h4, (fun h => h5 (by rw [upL_ne L (by decide)] at h; exact h)), h6⟩) hgw), (fun h => upL_of (f10 (by rw [upL_ne L (by decide)] at h; exact h))), (fun h => upL_of (f11 (by rw [upL_ne L (by decide)] at h; exact h))), (fun h h2 => d2_6 (by rw [upL_ne L (by decide)] at h; exact h) (by rw [upL_ne L (by decide)] at h2; exact h2)), (fun h h2 => d2_8 (by rw [upL_ne L (by decide)] at h; exact h) (by rw [upL_ne L (by decide)] at h2; exact h2)), (fun h h2 => d2_9 (by rw [upL_ne L (by decide)] at h; exact h) (by rw [upL_ne L (by decide)] at h2; exact h2)), (fun h h2 => d6_8 (by rw [upL_ne L (by decide)] at h; exact h) (by rw [upL_ne L (by decide)] at h2; exact h2)), (fun h h2 => d6_9 (by rw [upL_ne L (by decide)] at h; exact h) (by rw [upL_ne L (by decide)] at h2; exact h2)), (fun h h2 => d8_9 (by rw [upL_ne L (by decide)] at h; exact h) (by rw [upL_ne L (by decide)] at h2; exact h2))⟩
      · intro L a W hL hd hcl hJ K hK
        rw [hJd] at hJ
        obtain ⟨g33, a34, c34, g37, a38, c38, g9, g10, hf, hG, f0, f1, f2, f3, f4, f5, f6, f7, f8, f9, f10, f11, d2_6, d2_8, d2_9, d6_8, d6_9, d8_9⟩ := hJ
        have hn : a.tmps.size = 91 := hf.2.1
        have hgV : World.grows V W := World.grows.trans (by show World.grows _ _; repeat (with_reducible first | assumption | exact grA | apply grB | apply grC | apply grD | refine grE ?_ (by omega) _)) hG
        have e7 := hf.2.2 7 (by decide); have e7q := get_some e7 (by rw [hn]; decide); have e7r := get_eval e7
        skip
        have r1 := hgV.row_eq lx; have r2 := hgV.row_eq ly; rw [hx] at r1; rw [hy] at r2; have zr1 := row_sz' r1; have zr2 := row_sz' r2
        have HF := Lib.hid (And.intro hL (And.intro hd (And.intro hcl (And.intro hn (And.intro hf (And.intro f0 (And.intro f1 (And.intro f2 (And.intro f3 (And.intro f4 (And.intro f5 (And.intro f6 (And.intro f7 (And.intro f8 (And.intro f9 (And.intro f10 (And.intro f11 (And.intro d2_6 (And.intro d2_8 (And.intro d2_9 (And.intro d6_8 (And.intro d6_9 d8_9))))))))))))))))))))))
        clear hL hd hcl hn hf f0 f1 f2 f3 f4 f5 f6 f7 f8 f9 f10 f11 d2_6 d2_8 d2_9 d6_8 d6_9 d8_9
        go_simp
        obtain ⟨hL, hd, hcl, hn, hf, f0, f1, f2, f3, f4, f5, f6, f7, f8, f9, f10, f11, d2_6, d2_8, d2_9, d6_8, d6_9, d8_9⟩ := HF.out
        have hgw : W.grows W := World.grows.refl
        refine hK _ _ ?_
        rw [hJd]
        skip
        exact ⟨g33, a34, c34, g37, a38, c38, g9, g10, (hf.put (by decide)), (hG.trans hgw), (fun h => (put_other (by decide)).trans (f0 (by rw [upL_ne L (by decide)] at h; exact h))), (fun h => (put_other (by decide)).trans (f1 (by rw [upL_ne L (by decide)] at h; exact h))), (fun h => ⟨(put_other (by decide)).trans (f2 (by rw [upL_ne L (by decide)] at h; exact h)).1, (f2 (by rw [upL_ne L (by decide)] at h; exact h)).2⟩), (fun h => (put_other (by decide)).trans (f3 (by rw [upL_ne L (by decide)] at h; exact h))), (fun _ => (put_same (by rw [hn]; decide))), (fun h => (put_other (by decide)).trans (f5 (by rw [upL_ne L (by decide)] at h; exact h))), (fun h => ⟨(put_other (by decide)).trans (f6 (by rw [upL_ne L (by decide)] at h; exact h)).1, (f6 (by rw [upL_ne L (by decide)] at h; exact h)).2⟩), (fun h => (put_other (by decide)).trans (f7 (by rw [upL_ne L (by decide)] at h; exact h))), (fun h => by obtain ⟨h1, h2, h3, cs, h4, h5, h6⟩ := f8 (by rw [upL_ne L (by decide)] at h; exact h); exact ⟨(put_other (by decide)).trans h1, h2, h3, cs, h4, (fun h => h5 (by rw [upL_ne L (by decide)] at h; exact h)), h6⟩), (fun h => by obtain ⟨h1, h2, h3, cs, h4, h5, h6⟩ := f9 (by rw [upL_ne L (by decide)] at h; exact h); exact ⟨(put_other (by decide)).trans h1, h2, h3, cs, h4, (fun h => h5 (by rw [upL_ne L (by decide)] at h; exact h)), h6⟩), (fun h => upL_of (f10 (by rw [upL_ne L (by decide)] at h; exact h))), (fun h => upL_of (f11 (by rw [upL_ne L (by decide)] at h; exact h))), (fun h h2 => d2_6 (by rw [upL_ne L (by decide)] at h; exact h) (by rw [upL_ne L (by decide)] at h2; exact h2)), (fun h h2 => d2_8 (by rw [upL_ne L (by decide)] at h; exact h) (by rw [upL_ne L (by decide)] at h2; exact h2)), (fun h h2 => d2_9 (by rw [upL_ne L (by decide)] at h; exact h) (by rw [upL_ne L (by decide)] at h2; exact h2)), (fun h h2 => d6_8 (by rw [upL_ne L (by decide)] at h; exact h) (by rw [upL_ne L (by decide)] at h2; exact h2)), (fun h h2 => d6_9 (by rw [upL_ne L (by decide)] at h; exact h) (by rw [upL_ne L (by decide)] at h2; exact h2)), (fun h h2 => d8_9 (by rw [upL_ne L (by decide)] at h; exact h) (by rw [upL_ne L (by decide)] at h2; exact h2))⟩
      · intro L a W hL hd hcl hJ K hK
        rw [hJd] at hJ
        obtain ⟨g33, a34, c34, g37, a38, c38, g9, g10, hf, hG, f0, f1, f2, f3, f4, f5, f6, f7, f8, f9, f10, f11, d2_6, d2_8, d2_9, d6_8, d6_9, d8_9⟩ := hJ
        have hn : a.tmps.size = 91 := hf.2.1
        have hgV : World.grows V W := World.grows.trans (by show World.grows _ _; repeat (with_reducible first | assumption | exact grA | apply grB | apply grC | apply grD | refine grE ?_ (by omega) _)) hG
        have e5 := hf.2.2 5 (by decide); have e5q := get_some e5 (by rw [hn]; decide); have e5r := get_eval e5
        skip
        have r1 := hgV.row_eq lx; have r2 := hgV.row_eq ly; rw [hx] at r1; rw [hy] at r2; have zr1 := row_sz' r1; have zr2 := row_sz' r2
        have HF := Lib.hid (And.intro hL (And.intro hd (And.intro hcl (And.intro hn (And.intro hf (And.intro f0 (And.intro f1 (And.intro f2 (And.intro f3 (And.intro f4 (And.intro f5 (And.intro f6 (And.intro f7 (And.intro f8 (And.intro f9 (And.intro f10 (And.intro f11 (And.intro d2_6 (And.intro d2_8 (And.intro d2_9 (And.intro d6_8 (And.intro d6_9 d8_9))))))))))))))))))))))
        clear hL hd hcl hn hf f0 f1 f2 f3 f4 f5 f6 f7 f8 f9 f10 f11 d2_6 d2_8 d2_9 d6_8 d6_9 d8_9
        go_simp
        obtain ⟨hL, hd, hcl, hn, hf, f0, f1, f2, f3, f4, f5, f6, f7, f8, f9, f10, f11, d2_6, d2_8, d2_9, d6_8, d6_9, d8_9⟩ := HF.out
        have hgw : W.grows W := World.grows.refl
        refine hK _ _ ?_
        rw [hJd]
        skip
        exact ⟨g33, a34, c34, g37, a38, c38, g9, g10, (hf.put (by decide)), (hG.trans hgw), (fun h => (put_other (by decide)).trans (f0 (by rw [upL_ne L (by decide)] at h; exact h))), (fun h => (put_other (by decide)).trans (f1 (by rw [upL_ne L (by decide)] at h; exact h))), (fun h => ⟨(put_other (by decide)).trans (f2 (by rw [upL_ne L (by decide)] at h; exact h)).1, (f2 (by rw [upL_ne L (by decide)] at h; exact h)).2⟩), (fun h => (put_other (by decide)).trans (f3 (by rw [upL_ne L (by decide)] at h; exact h))), (fun h => (put_other (by decide)).trans (f4 (by rw [upL_ne L (by decide)] at h; exact h))), (fun _ => (put_same (by rw [hn]; decide))), (fun h => ⟨(put_other (by decide)).trans (f6 (by rw [upL_ne L (by decide)] at h; exact h)).1, (f6 (by rw [upL_ne L (by decide)] at h; exact h)).2⟩), (fun h => (put_other (by decide)).trans (f7 (by rw [upL_ne L (by decide)] at h; exact h))), (fun h => by obtain ⟨h1, h2, h3, cs, h4, h5, h6⟩ := f8 (by rw [upL_ne L (by decide)] at h; exact h); exact ⟨(put_other (by decide)).trans h1, h2, h3, cs, h4, (fun h => h5 (by rw [upL_ne L (by decide)] at h; exact h)), h6⟩), (fun h => by obtain ⟨h1, h2, h3, cs, h4, h5, h6⟩ := f9 (by rw [upL_ne L (by decide)] at h; exact h); exact ⟨(put_other (by decide)).trans h1, h2, h3, cs, h4, (fun h => h5 (by rw [upL_ne L (by decide)] at h; exact h)), h6⟩), (fun h => upL_of (f10 (by rw [upL_ne L (by decide)] at h; exact h))), (fun h => upL_of (f11 (by rw [upL_ne L (by decide)] at h; exact h))), (fun h h2 => d2_6 (by rw [upL_ne L (by decide)] at h; exact h) (by rw [upL_ne L (by decide)] at h2; exact h2)), (fun h h2 => d2_8 (by rw [upL_ne L (by decide)] at h; exact h) (by rw [upL_ne L (by decide)] at h2; exact h2)), (fun h h2 => d2_9 (by rw [upL_ne L (by decide)] at h; exact h) (by rw [upL_ne L (by decide)] at h2; exact h2)), (fun h h2 => d6_8 (by rw [upL_ne L (by decide)] at h; exact h) (by rw [upL_ne L (by decide)] at h2; exact h2)), (fun h h2 => d6_9 (by rw [upL_ne L (by decide)] at h; exact h) (by rw [upL_ne L (by decide)] at h2; exact h2)), (fun h h2 => d8_9 (by rw [upL_ne L (by decide)] at h; exact h) (by rw [upL_ne L (by decide)] at h2; exact h2))⟩
      · intro L a W hL hd hcl hJ K hK
        rw [hJd] at hJ
        obtain ⟨g33, a34, c34, g37, a38, c38, g9, g10, hf, hG, f0, f1, f2, f3, f4, f5, f6, f7, f8, f9, f10, f11, d2_6, d2_8, d2_9, d6_8, d6_9, d8_9⟩ := hJ
        have hn : a.tmps.size = 91 := hf.2.1
        have hgV : World.grows V W := World.grows.trans (by show World.grows _ _; repeat (with_reducible first | assumption | exact grA | apply grB | apply grC | apply grD | refine grE ?_ (by omega) _)) hG
        have p4 := f4 (hd 4 (by kernel_rfl))
        have p5 := f5 (hd 5 (by kernel_rfl))
        have p4q := get_some p4 (by rw [hn]; decide); have p4r := get_eval p4
        have p5q := get_some p5 (by rw [hn]; decide); have p5r := get_eval p5
        skip
        have r1 := hgV.row_eq lx; have r2 := hgV.row_eq ly; rw [hx] at r1; rw [hy] at r2; have zr1 := row_sz' r1; have zr2 := row_sz' r2
        have HF := Lib.hid (And.intro hL (And.intro hd (And.intro hcl (And.intro hn (And.intro hf (And.intro f0 (And.intro f1 (And.intro f2 (And.intro f3 (And.intro f4 (And.intro f5 (And.intro f6 (And.intro f7 (And.intro f8 (And.intro f9 (And.intro f10 (And.intro f11 (And.intro d2_6 (And.intro d2_8 (And.intro d2_9 (And.intro d6_8 (And.intro d6_9 d8_9))))))))))))))))))))))
        clear hL hd hcl hn hf f0 f1 f2 f3 f4 f5 f6 f7 f8 f9 f10 f11 d2_6 d2_8 d2_9 d6_8 d6_9 d8_9
        go_simp
        obtain ⟨hL, hd, hcl, hn, hf, f0, f1, f2, f3, f4, f5, f6, f7, f8, f9, f10, f11, d2_6, d2_8, d2_9, d6_8, d6_9, d8_9⟩ := HF.out
        have hgA : ∀ o, W.grows (W.alloc o) := fun o => World.grows.alloc World.grows.refl o
        refine hK _ _ ?_
        rw [hJd]
        skip
        exact ⟨g33, a34, c34, W.heap.size, a38, c38, g9, g10, (hf.put (by decide)), (hG.trans (hgA _)), (fun h => (put_other (by decide)).trans (f0 (by rw [upL_ne L (by decide)] at h; exact h))), (fun h => (put_other (by decide)).trans (f1 (by rw [upL_ne L (by decide)] at h; exact h))), (inv_b (fun h => ⟨(put_other (by decide)).trans (f2 (by rw [upL_ne L (by decide)] at h; exact h)).1, (f2 (by rw [upL_ne L (by decide)] at h; exact h)).2⟩) (hgA _)), (fun h => (put_other (by decide)).trans (f3 (by rw [upL_ne L (by decide)] at h; exact h))), (fun h => (put_other (by decide)).trans (f4 (by rw [upL_ne L (by decide)] at h; exact h))), (fun h => (put_other (by decide)).trans (f5 (by rw [upL_ne L (by decide)] at h; exact h))), (fun _ => ⟨(put_same (by rw [hn]; decide)), hG.below.size, (by rw [World.size_alloc]; exact Nat.lt_succ_self _), (by simp [go_sem])⟩), (fun h => (put_other (by decide)).trans (f7 (by rw [upL_ne L (by decide)] at h; exact h))), (inv_a (fun h => by obtain ⟨h1, h2, h3, cs, h4, h5, h6⟩ := f8 (by rw [upL_ne L (by decide)] at h; exact h); exact ⟨(put_other (by decide)).trans h1, h2, h3, cs, h4, (fun h => h5 (by rw [upL_ne L (by decide)] at h; exact h)), h6⟩) (hgA _)), (inv_a (fun h => by obtain ⟨h1, h2, h3, cs, h4, h5, h6⟩ := f9 (by rw [upL_ne L (by decide)] at h; exact h); exact ⟨(put_other (by decide)).trans h1, h2, h3, cs, h4, (fun h => h5 (by rw [upL_ne L (by decide)] at h; exact h)), h6⟩) (hgA _)), (fun h => upL_of (f10 (by rw [upL_ne L (by decide)] at h; exact h))), (fun h => upL_of (f11 (by rw [upL_ne L (by decide)] at h; exact h))), (fun h h2 => id (Nat.ne_of_lt (f2 (by rw [upL_ne L (by decide)] at h; exact h)).2.2.1)), (fun h h2 => d2_8 (by rw [upL_ne L (by decide)] at h; exact h) (by rw [upL_ne L (by decide)] at h2; exact h2)), (fun h h2 => d2_9 (by rw [upL_ne L (by decide)] at h; exact h) (by rw [upL_ne L (by decide)] at h2; exact h2)), (fun h h2 => Ne.symm (Nat.ne_of_lt (f8 (by rw [upL_ne L (by decide)] at h2; exact h2)).2.2.1)), (fun h h2 => Ne.symm (Nat.ne_of_lt (f9 (by rw [upL_ne L (by decide)] at h2; exact h2)).2.2.1)), (fun h h2 => d8_9 (by rw [upL_ne L (by decide)] at h; exact h) (by rw [upL_ne L (by decide)] at h2; exact h2))⟩
      · intro L a W hL hd hcl hJ K hK
        rw [hJd] at hJ
        obtain ⟨g33, a34, c34, g37, a38, c38, g9, g10, hf, hG, f0, f1, f2, f3, f4, f5, f6, f7, f8, f9, f10, f11, d2_6, d2_8, d2_9, d6_8, d6_9, d8_9⟩ := hJ
        have hn : a.tmps.size = 91 := hf.2.1
        have hgV : World.grows V W := World.grows.trans (by show World.grows _ _; repeat (with_reducible first | assumption | exact grA | apply grB | apply grC | apply grD | refine grE ?_ (by omega) _)) hG
        have p3 := f3 (hd 3 (by kernel_rfl))
        obtain ⟨p6, pl6, ps6, pr6⟩ := f6 (hd 6 (by kernel_rfl)); have pz6 := row_sz' pr6
        have p6q := get_some p6 (by rw [hn]; decide); have p6r := get_eval p6
        skip
        have r1 := hgV.row_eq lx; have r2 := hgV.row_eq ly; rw [hx] at r1; rw [hy] at r2; have zr1 := row_sz' r1; have zr2 := row_sz' r2
        have HF := Lib.hid (And.intro hL (And.intro hd (And.intro hcl (And.intro hn (And.intro hf (And.intro f0 (And.intro f1 (And.intro f2 (And.intro f3 (And.intro f4 (And.intro f5 (And.intro f6 (And.intro f7 (And.intro f8 (And.intro f9 (And.intro f10 (And.intro f11 (And.intro d2_6 (And.intro d2_8 (And.intro d2_9 (And.intro d6_8 (And.intro d6_9 d8_9))))))))))))))))))))))
        clear hL hd hcl hn hf f0 f1 f2 f3 f4 f5 f6 f7 f8 f9 f10 f11 d2_6 d2_8 d2_9 d6_8 d6_9 d8_9
        go_simp
        (go_at_call 36; (with_reducible refine (C4.out W g37 _ _ (HF'.out.grows hgV) (HG'.out.grows hgV) pr6).mono ?_); rintro e w5 ⟨a7, c7, rfl, hg7⟩)
        refine ⟨_, rfl, ?_⟩
        obtain ⟨hL, hd, hcl, hn, hf, f0, f1, f2, f3, f4, f5, f6, f7, f8, f9, f10, f11, d2_6, d2_8, d2_9, d6_8, d6_9, d8_9⟩ := HF.out
        have hgw : W.grows w5 := hg7
        refine hK _ _ ?_
        rw [hJd]
        skip
        exact ⟨g33, a34, c34, g37, a7, c7, g9, g10, (hf.put (by decide)), (hG.trans hgw), (fun h => (put_other (by decide)).trans (f0 (by rw [upL_ne L (by decide)] at h; exact h))), (fun h => (put_other (by decide)).trans (f1 (by rw [upL_ne L (by decide)] at h; exact h))), (inv_b (fun h => ⟨(put_other (by decide)).trans (f2 (by rw [upL_ne L (by decide)] at h; exact h)).1, (f2 (by rw [upL_ne L (by decide)] at h; exact h)).2⟩) hgw), (fun h => (put_other (by decide)).trans (f3 (by rw [upL_ne L (by decide)] at h; exact h))), (fun h => (put_other (by decide)).trans (f4 (by rw [upL_ne L (by decide)] at h; exact h))), (fun h => (put_other (by decide)).trans (f5 (by rw [upL_ne L (by decide)] at h; exact h))), (inv_b (fun h => ⟨(put_other (by decide)).trans (f6 (by rw [upL_ne L (by decide)] at h; exact h)).1, (f6 (by rw [upL_ne L (by decide)] at h; exact h)).2⟩) hgw), (fun _ => (put_same (by rw [hn]; decide))), (inv_a (fun h => by obtain ⟨h1, h2, h3, cs, h4, h5, h6⟩ := f8 (by rw [upL_ne L (by decide)] at h; exact h); exact ⟨(put_other (by decide)).trans h1, h2, h3, cs, h4, (fun h => h5 (by rw [upL_ne L (by decide)] at h; exact h)), h6⟩) hgw), (inv_a (fun h => by obtain ⟨h1, h2, h3, cs, h4, h5, h6⟩ := f9 (by rw [upL_ne L (by decide)] at h; exact h); exact ⟨(put_other (by decide)).trans h1, h2, h3, cs, h4, (fun h => (absurd ((hcl 11 7 (by decide) (by kernel_rfl) (by rw [upL_ne L (by decide)] at h; exact h)).symm.trans hL) (by decide))), h6⟩) hgw), (fun h => upL_of (f10 (by rw [upL_ne L (by decide)] at h; exact h))), (fun h => upL_of (f11 (by rw [upL_ne L (by decide)] at h; exact h))), (fun h h2 => d2_6 (by rw [upL_ne L (by decide)] at h; exact h) (by rw [upL_ne L (by decide)] at h2; exact h2)), (fun h h2 => d2_8 (by rw [upL_ne L (by decide)] at h; exact h) (by rw [upL_ne L (by decide)] at h2; exact h2)), (fun h h2 => d2_9 (by rw [upL_ne L (by decide)] at h; exact h) (by rw [upL_ne L (by decide)] at h2; exact h2)), (fun h h2 => d6_8 (by rw [upL_ne L (by decide)] at h; exact h) (by rw [upL_ne L (by decide)] at h2; exact h2)), (fun h h2 => d6_9 (by rw [upL_ne L (by decide)] at h; exact h) (by rw [upL_ne L (by decide)] at h2; exact h2)), (fun h h2 => d8_9 (by rw [upL_ne L (by decide)] at h; exact h) (by rw [upL_ne L (by decide)] at h2; exact h2))⟩
      · intro L a W hL hd hcl hJ K hK
        rw [hJd] at hJ
        obtain ⟨g33, a34, c34, g37, a38, c38, g9, g10, hf, hG, f0, f1, f2, f3, f4, f5, f6, f7, f8, f9, f10, f11, d2_6, d2_8, d2_9, d6_8, d6_9, d8_9⟩ := hJ
        have hn : a.tmps.size = 91 := hf.2.1
        have hgV : World.grows V W := World.grows.trans (by show World.grows _ _; repeat (with_reducible first | assumption | exact grA | apply grB | apply grC | apply grD | refine grE ?_ (by omega) _)) hG
        skip
        have r1 := hgV.row_eq lx; have r2 := hgV.row_eq ly; rw [hx] at r1; rw [hy] at r2; have zr1 := row_sz' r1; have zr2 := row_sz' r2
        have HF := Lib.hid (And.intro hL (And.intro hd (And.intro hcl (And.intro hn (And.intro hf (And.intro f0 (And.intro f1 (And.intro f2 (And.intro f3 (And.intro f4 (And.intro f5 (And.intro f6 (And.intro f7 (And.intro f8 (And.intro f9 (And.intro f10 (And.intro f11 (And.intro d2_6 (And.intro d2_8 (And.intro d2_9 (And.intro d6_8 (And.intro d6_9 d8_9))))))))))))))))))))))
        clear hL hd hcl hn hf f0 f1 f2 f3 f4 f5 f6 f7 f8 f9 f10 f11 d2_6 d2_8 d2_9 d6_8 d6_9 d8_9
        go_simp
        obtain ⟨hL, hd, hcl, hn, hf, f0, f1, f2, f3, f4, f5, f6, f7, f8, f9, f10, f11, d2_6, d2_8, d2_9, d6_8, d6_9, d8_9⟩ := HF.out
        have hgA : ∀ o, W.grows (W.alloc o) := fun o => World.grows.alloc World.grows.refl o
        refine hK _ _ ?_
        rw [hJd]
        skip
        exact ⟨g33, a34, c34, g37, a38, c38, W.heap.size, g10, (hf.put (by decide)), (hG.trans (hgA _)), (fun h => (put_other (by decide)).trans (f0 (by rw [upL_ne L (by decide)] at h; exact h))), (fun h => (put_other (by decide)).trans (f1 (by rw [upL_ne L (by decide)] at h; exact h))), (inv_b (fun h => ⟨(put_other (by decide)).trans (f2 (by rw [upL_ne L (by decide)] at h; exact h)).1, (f2 (by rw [upL_ne L (by decide)] at h; exact h)).2⟩) (hgA _)), (fun h => (put_other (by decide)).trans (f3 (by rw [upL_ne L (by decide)] at h; exact h))), (fun h => (put_other (by decide)).trans (f4 (by rw [upL_ne L (by decide)] at h; exact h))), (fun h => (put_other (by decide)).trans (f5 (by rw [upL_ne L (by decide)] at h; exact h))), (inv_b (fun h => ⟨(put_other (by decide)).trans (f6 (by rw [upL_ne L (by decide)] at h; exact h)).1, (f6 (by rw [upL_ne L (by decide)] at h; exact h)).2⟩) (hgA _)), (fun h => (put_other (by decide)).trans (f7 (by rw [upL_ne L (by decide)] at h; exact h))), (fun _ => ⟨(put_same (by rw [hn]; decide)), hG.below.size, (by rw [World.size_alloc]; exact Nat.lt_succ_self _), _, (by rfl), (fun h => (absurd ((hcl 10 8 (by decide) (by kernel_rfl) (by rw [upL_ne L (by decide)] at h; exact h)).symm.trans hL) (by decide))), ((World.row_alloc ..).trans (if_pos rfl))⟩), (inv_a (fun h => by obtain ⟨h1, h2, h3, cs, h4, h5, h6⟩ := f9 (by rw [upL_ne L (by decide)] at h; exact h); exact ⟨(put_other (by decide)).trans h1, h2, h3, cs, h4, (fun h => h5 (by rw [upL_ne L (by decide)] at h; exact h)), h6⟩) (hgA _)), (fun h => upL_of (f10 (by rw [upL_ne L (by decide)] at h; exact h))), (fun h => upL_of (f11 (by rw [upL_ne L (by decide)] at h; exact h))), (fun h h2 => d2_6 (by rw [upL_ne L (by decide)] at h; exact h) (by rw [upL_ne L (by decide)] at h2; exact h2)), (fun h h2 => id (Nat.ne_of_lt (f2 (by rw [upL_ne L (by decide)] at h; exact h)).2.2.1)), (fun h h2 => d2_9 (by rw [upL_ne L (by decide)] at h; exact h) (by rw [upL_ne L (by decide)] at h2; exact h2)), (fun h h2 => id (Nat.ne_of_lt (f6 (by rw [upL_ne L (by decide)] at h; exact h)).2.2.1)), (fun h h2 => d6_9 (by rw [upL_ne L (by decide)] at h; exact h) (by rw [upL_ne L (by decide)] at h2; exact h2)), (fun h h2 => Ne.symm (Nat.ne_of_lt (f9 (by rw [upL_ne L (by decide)] at h2; exact h2)).2.2.1))⟩
      · intro L a W hL hd hcl hJ K hK
        rw [hJd] at hJ
        obtain ⟨g33, a34, c34, g37, a38, c38, g9, g10, hf, hG, f0, f1, f2, f3, f4, f5, f6, f7, f8, f9, f10, f11, d2_6, d2_8, d2_9, d6_8, d6_9, d8_9⟩ := hJ
        have hn : a.tmps.size = 91 := hf.2.1
        have hgV : World.grows V W := World.grows.trans (by show World.grows _ _; repeat (with_reducible first | assumption | exact grA | apply grB | apply grC | apply grD | refine grE ?_ (by omega) _)) hG
        skip
        have r1 := hgV.row_eq lx; have r2 := hgV.row_eq ly; rw [hx] at r1; rw [hy] at r2; have zr1 := row_sz' r1; have zr2 := row_sz' r2
        have HF := Lib.hid (And.intro hL (And.intro hd (And.intro hcl (And.intro hn (And.intro hf (And.intro f0 (And.intro f1 (And.intro f2 (And.intro f3 (And.intro f4 (And.intro f5 (And.intro f6 (And.intro f7 (And.intro f8 (And.intro f9 (And.intro f10 (And.intro f11 (And.intro d2_6 (And.intro d2_8 (And.intro d2_9 (And.intro d6_8 (And.intro d6_9 d8_9))))))))))))))))))))))
        clear hL hd hcl hn hf f0 f1 f2 f3 f4 f5 f6 f7 f8 f9 f10 f11 d2_6 d2_8 d2_9 d6_8 d6_9 d8_9
        go_simp
        obtain ⟨hL, hd, hcl, hn, hf, f0, f1, f2, f3, f4, f5, f6, f7, f8, f9, f10, f11, d2_6, d2_8, d2_9, d6_8, d6_9, d8_9⟩ := HF.out
        have hgA : ∀ o, W.grows (W.alloc o) := fun o => World.grows.alloc World.grows.refl o
        refine hK _ _ ?_
        rw [hJd]
        skip
        exact ⟨g33, a34, c34, g37, a38, c38, g9, W.heap.size, (hf.put (by decide)), (hG.trans (hgA _)), (fun h => (put_other (by decide)).trans (f0 (by rw [upL_ne L (by decide)] at h; exact h))), (fun h => (put_other (by decide)).trans (f1 (by rw [upL_ne L (by decide)] at h; exact h))), (inv_b (fun h => ⟨(put_other (by decide)).trans (f2 (by rw [upL_ne L (by decide)] at h; exact h)).1, (f2 (by rw [upL_ne L (by decide)] at h; exact h)).2⟩) (hgA _)), (fun h => (put_other (by decide)).trans (f3 (by rw [upL_ne L (by decide)] at h; exact h))), (fun h => (put_other (by decide)).trans (f4 (by rw [upL_ne L (by decide)] at h; exact h))), (fun h => (put_other (by decide)).trans (f5 (by rw [upL_ne L (by decide)] at h; exact h))), (inv_b (fun h => ⟨(put_other (by decide)).trans (f6 (by rw [upL_ne L (by decide)] at h; exact h)).1, (f6 (by rw [upL_ne L (by decide)] at h; exact h)).2⟩) (hgA _)), (fun h => (put_other (by decide)).trans (f7 (by rw [upL_ne L (by decide)] at h; exact h))), (inv_a (fun h => by obtain ⟨h1, h2, h3, cs, h4, h5, h6⟩ := f8 (by rw [upL_ne L (by decide)] at h; exact h); exact ⟨(put_other (by decide)).trans h1, h2, h3, cs, h4, (fun h => h5 (by rw [upL_ne L (by decide)] at h; exact h)), h6⟩) (hgA _)), (fun _ => ⟨(put_same (by rw [hn]; decide)), hG.below.size, (by rw [World.size_alloc]; exact Nat.lt_succ_self _), _, (by rfl), (fun h => (absurd ((hcl 11 9 (by decide) (by kernel_rfl) (by rw [upL_ne L (by decide)] at h; exact h)).symm.trans hL) (by decide))), ((World.row_alloc ..).trans (if_pos rfl))⟩), (fun h => upL_of (f10 (by rw [upL_ne L (by decide)] at h; exact h))), (fun h => upL_of (f11 (by rw [upL_ne L (by decide)] at h; exact h))), (fun h h2 => d2_6 (by rw [upL_ne L (by decide)] at h; exact h) (by rw [upL_ne L (by decide)] at h2; exact h2)), (fun h h2 => d2_8 (by rw [upL_ne L (by decide)] at h; exact h) (by rw [upL_ne L (by decide)] at h2; exact h2)), (fun h h2 => id (Nat.ne_of_lt (f2 (by rw [upL_ne L (by decide)] at h; exact h)).2.2.1)), (fun h h2 => d6_8 (by rw [upL_ne L (by decide)] at h; exact h) (by rw [upL_ne L (by decide)] at h2; exact h2)), (fun h h2 => id (Nat.ne_of_lt (f6 (by rw [upL_ne L (by decide)] at h; exact h)).2.2.1)), (fun h h2 => id (Nat.ne_of_lt (f8 (by rw [upL_ne L (by decide)] at h; exact h)).2.2.1))⟩
      · intro L a W hL hd hcl hJ K hK
        rw [hJd] at hJ
        obtain ⟨g33, a34, c34, g37, a38, c38, g9, g10, hf, hG, f0, f1, f2, f3, f4, f5, f6, f7, f8, f9, f10, f11, d2_6, d2_8, d2_9, d6_8, d6_9, d8_9⟩ := hJ
        have hn : a.tmps.size = 91 := hf.2.1
        have hgV : World.grows V W := World.grows.trans (by show World.grows _ _; repeat (with_reducible first | assumption | exact grA | apply grB | apply grC | apply grD | refine grE ?_ (by omega) _)) hG
        have p0 := f0 (hd 0 (by kernel_rfl))
        have p1 := f1 (hd 1 (by kernel_rfl))
        obtain ⟨p2, pl2, ps2, pr2⟩ := f2 (hd 2 (by kernel_rfl)); have pz2 := row_sz' pr2
        have p3 := f3 (hd 3 (by kernel_rfl))
        have p7 := f7 (hd 7 (by kernel_rfl))
        obtain ⟨p8, pl8, ps8, pc8, pn8, pu8, pr8⟩ := f8 (hd 8 (by kernel_rfl)); have pz8 := row_sz' pr8; have po8 : rowOkW 15 (some (.cells pc8 30)) = true := beq_iff_eq.2 pn8
        obtain ⟨p9, pl9, ps9, pc9, pn9, pu9, pr9⟩ := f9 (hd 9 (by kernel_rfl)); have pz9 := row_sz' pr9; have po9 : rowOkW 15 (some (.cells pc9 30)) = true := beq_iff_eq.2 pn9
        have p8q := get_some p8 (by rw [hn]; decide); have p8r := get_eval p8
        have p3q := get_some p3 (by rw [hn]; decide); have p3r := get_eval p3
        skip
        have r1 := hgV.row_eq lx; have r2 := hgV.row_eq ly; rw [hx] at r1; rw [hy] at r2; have zr1 := row_sz' r1; have zr2 := row_sz' r2
        have HF := Lib.hid (And.intro hL (And.intro hd (And.intro hcl (And.intro hn (And.intro hf (And.intro f0 (And.intro f1 (And.intro f2 (And.intro f3 (And.intro f4 (And.intro f5 (And.intro f6 (And.intro f7 (And.intro f8 (And.intro f9 (And.intro f10 (And.intro f11 (And.intro d2_6 (And.intro d2_8 (And.intro d2_9 (And.intro d6_8 (And.intro d6_9 d8_9))))))))))))))))))))))
        clear hL hd hcl hn hf f0 f1 f2 f3 f4 f5 f6 f7 f8 f9 f10 f11 d2_6 d2_8 d2_9 d6_8 d6_9 d8_9
        go_simp
        obtain ⟨hL, hd, hcl, hn, hf, f0, f1, f2, f3, f4, f5, f6, f7, f8, f9, f10, f11, d2_6, d2_8, d2_9, d6_8, d6_9, d8_9⟩ := HF.out
        refine hK _ _ ?_
        rw [hJd]
        exact ⟨g33, a34, c34, g37, a38, c38, g9, g10, hf, (hG.setRow' (Nat.le_trans pl8 (Nat.le_refl _)) _), (fun h => f0 (by rw [upL_ne L (by decide)] at h; exact h)), (fun h => f1 (by rw [upL_ne L (by decide)] at h; exact h)), (inv_bs (fun h => f2 (by rw [upL_ne L (by decide)] at h; exact h)) (fun h => d2_8 (by rw [upL_ne L (by decide)] at h; exact h) (hd 8 (by kernel_rfl)))), (fun h => f3 (by rw [upL_ne L (by decide)] at h; exact h)), (fun h => f4 (by rw [upL_ne L (by decide)] at h; exact h)), (fun h => f5 (by rw [upL_ne L (by decide)] at h; exact h)), (inv_bs (fun h => f6 (by rw [upL_ne L (by decide)] at h; exact h)) (fun h => d6_8 (by rw [upL_ne L (by decide)] at h; exact h) (hd 8 (by kernel_rfl)))), (fun h => f7 (by rw [upL_ne L (by decide)] at h; exact h)), (fun _ => ⟨p8, pl8, (by rw [World.setRow_size']; exact ps8), _, (by first | rfl | (simp [go_sem]; done) | (simp [go_sem, *]; done)), (fun _ => rfl), (by rw [World.row_setRow, if_pos rfl, pr8]; first | done | rfl)⟩), (inv_as (fun h => by obtain ⟨h1, h2, h3, cs, h4, h5, h6⟩ := f9 (by rw [upL_ne L (by decide)] at h; exact h); exact ⟨h1, h2, h3, cs, h4, (fun h => h5 (by rw [upL_ne L (by decide)] at h; exact h)), h6⟩) (fun h => Ne.symm (d8_9 (hd 8 (by kernel_rfl)) (by rw [upL_ne L (by decide)] at h; exact h)))), (fun _ => upL_of (hd 8 (by kernel_rfl))), (fun h => upL_of (f11 (by rw [upL_ne L (by decide)] at h; exact h))), (fun h h2 => d2_6 (by rw [upL_ne L (by decide)] at h; exact h) (by rw [upL_ne L (by decide)] at h2; exact h2)), (fun h h2 => d2_8 (by rw [upL_ne L (by decide)] at h; exact h) (by rw [upL_ne L (by decide)] at h2; exact h2)), (fun h h2 => d2_9 (by rw [upL_ne L (by decide)] at h; exact h) (by rw [upL_ne L (by decide)] at h2; exact h2)), (fun h h2 => d6_8 (by rw [upL_ne L (by decide)] at h; exact h) (by rw [upL_ne L (by decide)] at h2; exact h2)), (fun h h2 => d6_9 (by rw [upL_ne L (by decide)] at h; exact h) (by rw [upL_ne L (by decide)] at h2; exact h2)), (fun h h2 => d8_9 (by rw [upL_ne L (by decide)] at h; exact h) (by rw [upL_ne L (by decide)] at h2; exact h2))⟩
      · intro L a W hL hd hcl hJ K hK
        rw [hJd] at hJ
        obtain ⟨g33, a34, c34, g37, a38, c38, g9, g10, hf, hG, f0, f1, f2, f3, f4, f5, f6, f7, f8, f9, f10, f11, d2_6, d2_8, d2_9, d6_8, d6_9, d8_9⟩ := hJ
        have hn : a.tmps.size = 91 := hf.2.1
        have hgV : World.grows V W := World.grows.trans (by show World.grows _ _; repeat (with_reducible first | assumption | exact grA | apply grB | apply grC | apply grD | refine grE ?_ (by omega) _)) hG
        have p0 := f0 (hd 0 (by kernel_rfl))
        have p1 := f1 (hd 1 (by kernel_rfl))
        obtain ⟨p2, pl2, ps2, pr2⟩ := f2 (hd 2 (by kernel_rfl)); have pz2 := row_sz' pr2
        have p3 := f3 (hd 3 (by kernel_rfl))
        have p4 := f4 (hd 4 (by kernel_rfl))
        have p5 := f5 (hd 5 (by kernel_rfl))
        obtain ⟨p6, pl6, ps6, pr6⟩ := f6 (hd 6 (by kernel_rfl)); have pz6 := row_sz' pr6
        have p7 := f7 (hd 7 (by kernel_rfl))
        obtain ⟨p8, pl8, ps8, pc8, pn8, pu8, pr8⟩ := f8 (hd 8 (by kernel_rfl)); have pz8 := row_sz' pr8; have po8 : rowOkW 15 (some (.cells pc8 30)) = true := beq_iff_eq.2 pn8
        obtain ⟨p9, pl9, ps9, pc9, pn9, pu9, pr9⟩ := f9 (hd 9 (by kernel_rfl)); have pz9 := row_sz' pr9; have po9 : rowOkW 15 (some (.cells pc9 30)) = true := beq_iff_eq.2 pn9
        have p9q := get_some p9 (by rw [hn]; decide); have p9r := get_eval p9
        have p7q := get_some p7 (by rw [hn]; decide); have p7r := get_eval p7
        skip
        have r1 := hgV.row_eq lx; have r2 := hgV.row_eq ly; rw [hx] at r1; rw [hy] at r2; have zr1 := row_sz' r1; have zr2 := row_sz' r2
        have HF := Lib.hid (And.intro hL (And.intro hd (And.intro hcl (And.intro hn (And.intro hf (And.intro f0 (And.intro f1 (And.intro f2 (And.intro f3 (And.intro f4 (And.intro f5 (And.intro f6 (And.intro f7 (And.intro f8 (And.intro f9 (And.intro f10 (And.intro f11 (And.intro d2_6 (And.intro d2_8 (And.intro d2_9 (And.intro d6_8 (And.intro d6_9 d8_9))))))))))))))))))))))
        clear hL hd hcl hn hf f0 f1 f2 f3 f4 f5 f6 f7 f8 f9 f10 f11 d2_6 d2_8 d2_9 d6_8 d6_9 d8_9
        go_simp
        obtain ⟨hL, hd, hcl, hn, hf, f0, f1, f2, f3, f4, f5, f6, f7, f8, f9, f10, f11, d2_6, d2_8, d2_9, d6_8, d6_9, d8_9⟩ := HF.out
        refine hK _ _ ?_
        rw [hJd]
        exact ⟨g33, a34, c34, g37, a38, c38, g9, g10, hf, (hG.setRow' (Nat.le_trans pl9 (Nat.le_refl _)) _), (fun h => f0 (by rw [upL_ne L (by decide)] at h; exact h)), (fun h => f1 (by rw [upL_ne L (by decide)] at h; exact h)), (inv_bs (fun h => f2 (by rw [upL_ne L (by decide)] at h; exact h)) (fun h => d2_9 (by rw [upL_ne L (by decide)] at h; exact h) (hd 9 (by kernel_rfl)))), (fun h => f3 (by rw [upL_ne L (by decide)] at h; exact h)), (fun h => f4 (by rw [upL_ne L (by decide)] at h; exact h)), (fun h => f5 (by rw [upL_ne L (by decide)] at h; exact h)), (inv_bs (fun h => f6 (by rw [upL_ne L (by decide)] at h; exact h)) (fun h => d6_9 (by rw [upL_ne L (by decide)] at h; exact h) (hd 9 (by kernel_rfl)))), (fun h => f7 (by rw [upL_ne L (by decide)] at h; exact h)), (inv_as (fun h => by obtain ⟨h1, h2, h3, cs, h4, h5, h6⟩ := f8 (by rw [upL_ne L (by decide)] at h; exact h); exact ⟨h1, h2, h3, cs, h4, (fun h => h5 (by rw [upL_ne L (by decide)] at h; exact h)), h6⟩) (fun h => d8_9 (by rw [upL_ne L (by decide)] at h; exact h) (hd 9 (by kernel_rfl)))), (fun _ => ⟨p9, pl9, (by rw [World.setRow_size']; exact ps9), _, (by first | rfl | (simp [go_sem]; done) | (simp [go_sem, *]; done)), (fun _ => rfl), (by rw [World.row_setRow, if_pos rfl, pr9]; first | done | rfl)⟩), (fun h => upL_of (f10 (by rw [upL_ne L (by decide)] at h; exact h))), (fun _ => upL_of (hd 9 (by kernel_rfl))), (fun h h2 => d2_6 (by rw [upL_ne L (by decide)] at h; exact h) (by rw [upL_ne L (by decide)] at h2; exact h2)), (fun h h2 => d2_8 (by rw [upL_ne L (by decide)] at h; exact h) (by rw [upL_ne L (by decide)] at h2; exact h2)), (fun h h2 => d2_9 (by rw [upL_ne L (by decide)] at h; exact h) (by rw [upL_ne L (by decide)] at h2; exact h2)), (fun h h2 => d6_8 (by rw [upL_ne L (by decide)] at h; exact h) (by rw [upL_ne L (by decide)] at h2; exact h2)), (fun h h2 => d6_9 (by rw [upL_ne L (by decide)] at h; exact h) (by rw [upL_ne L (by decide)] at h2; exact h2)), (fun h h2 => d8_9 (by rw [upL_ne L (by decide)] at h; exact h) (by rw [upL_ne L (by decide)] at h2; exact h2))⟩
    · intro a W hJ
      rw [hJd] at hJ
      obtain ⟨g33, a34, c34, g37, a38, c38, g9, g10, hf, hG, f0, f1, f2, f3, f4, f5, f6, f7, f8, f9, f10, f11, d2_6, d2_8, d2_9, d6_8, d6_9, d8_9⟩ := hJ
      clear hJd
      replace f0 := f0 rfl
      replace f1 := f1 rfl
      obtain ⟨f2, pl2, ps2, pr2⟩ := f2 rfl
      replace f3 := f3 rfl
      replace f4 := f4 rfl
      replace f5 := f5 rfl
      obtain ⟨f6, pl6, ps6, pr6⟩ := f6 rfl
      replace f7 := f7 rfl
      obtain ⟨f8, pl8, ps8, pc8, pn8, pu8, pr8⟩ := f8 rfl; obtain rfl := pu8 rfl
      obtain ⟨f9, pl9, ps9, pc9, pn9, pu9, pr9⟩ := f9 rfl; obtain rfl := pu9 rfl
      clear f10
      clear f11
      replace d2_6 := d2_6 rfl rfl
      replace d2_8 := d2_8 rfl rfl
      replace d2_9 := d2_9 rfl rfl
      replace d6_8 := d6_8 rfl rfl
      replace d6_9 := d6_9 rfl rfl
      replace d8_9 := d8_9 rfl rfl
      have ha := hf.puts [31, 32, 33, 34, 35, 36, 37, 38, 9, 10] _ (by intro d hd; show d < 91; revert d; decide)
      simp only [List.map_cons, List.map_nil, f0, f1, f2, f3, f4, f5, f6, f7, f8, f9] at ha
      clear f0 f1 f2 f3 f4 f5 f6 f7 f8 f9 hf
      subst ha
      have hgV : World.grows V W := World.grows.trans (by show World.grows _ _; repeat (with_reducible first | assumption | exact grA | apply grB | apply grC | apply grD | refine grE ?_ (by omega) _)) hG
      simp only [putL]
      go_simp
      go_step
      go_meet
      exact ⟨g9, g10, a34, c34, a38, c38, rfl, rfl, pr8, pr9, (hgV.row_eq lx).trans hx, hgV⟩
  case rest =>
    obtain ⟨p, q, a34, c34, a38, c38, rfl, rfl, hp, hq, hr, hgV⟩ := hcut
    have zp := row_sz' hp; have zq := row_sz' hq; have zr := row_sz' hr
    have hwc : w.grows wc := hwV.trans hgV
    have HF9 := Lib.hid (HF'.out.grows hgV)
    clear hgV hx hy zx zy HF' HG' C3 C4 hwV gV lx ly
    obtain ⟨us, ps⟩ := F
    have hFu : (Fm.mk us ps).us = us := rfl
    have hFp : (Fm.mk us ps).ps = ps := rfl
    simp only [hFu, hFp] at *
    clear hFu hFp
    generalize hB : w1.heap.size = B at *
    clear hB w1 h67 a6 c6
    go_upto_region 10 with fail
    go_loopg [11, 55] 7 (fun gn v11 v55 wj => ∃ (i u : Nat), Hid (gn + i = 7) ∧ i ≤ 7 ∧ v55 = .int .i64 i ∧ v11 = .int .i64 u ∧ Hid (u = cntU us i) ∧ wc.grows wj)
    case atStart => exact ⟨0, 0, rfl, by omega, rfl, rfl, rfl, (by repeat (with_reducible first | assumption | exact grA | apply grB | apply grC | apply grD | refine grE ?_ (by omega) _ | refine grF ?_ (by omega) _ _))⟩
    case round =>
      obtain ⟨i, u, HK, hi, rfl, rfl, HU, hg⟩ := hrel
      have hr2 := (hg.row_eq zr.1).trans hr
      have zr2 := row_sz' hr2
      by_cases hi7 : i < 7
      · have hu8 : u ≤ 7 := by rw [HU.out]; exact Nat.le_trans (cntU_le us i) (by omega)
        by_cases hz : uGet us i = (0, 1)
        · have hq1 : (uGet us i).1 = 0 := by rw [hz]
          have hq2 : (uGet us i).2 = 1 := by rw [hz]
          have hm : u = cntU us (i + 1) := by rw [HU.out, cntU_no hz]
          have HM := Lib.hid hm
          clear hm hz
          go_wp2_with fail
          go_roundg (7 - (i + 1))
          case rel => exact ⟨i + 1, u, Lib.hid (by omega), by omega, by go_num, rfl, HM, (by repeat (with_reducible first | assumption | exact grA | apply grB | apply grC | apply grD | refine grE ?_ (by omega) _ | refine grF ?_ (by omega) _ _))⟩
          case measure => have := HK.out; omega
        · have hm : u + 1 = cntU us (i + 1) := by rw [HU.out, cntU_yes hz]
          have hne : ((uGet us i).1 == 0) = false ∨ (((uGet us i).1 == 0) = true ∧ ((uGet us i).2 == 1) = false) := by
            generalize uGet us i = q at hz
            obtain ⟨q1, q2⟩ := q
            by_cases h1 : q1 = 0
            · subst h1
              refine .inr ⟨rfl, ?_⟩
              rw [beq_eq_false_iff_ne]; intro h; exact hz (by rw [show q2 = 1 from h])
            · exact .inl (by rw [beq_eq_false_iff_ne]; exact h1)
          have HM := Lib.hid hm
          clear hm hz
          rcases hne with hb1 | ⟨hb1, hb2⟩
          · go_wp2_with fail
            go_roundg (7 - (i + 1))
            case rel => exact ⟨i + 1, u + 1, Lib.hid (by omega), by omega, by go_num, by go_num, HM, (by repeat (with_reducible first | assumption | exact grA | apply grB | apply grC | apply grD | refine grE ?_ (by omega) _ | refine grF ?_ (by omega) _ _))⟩
            case measure => have := HK.out; omega
          · go_wp2_with fail
            go_roundg (7 - (i + 1))
            case rel => exact ⟨i + 1, u + 1, Lib.hid (by omega), by omega, by go_num, by go_num, HM, (by repeat (with_reducible first | assumption | exact grA | apply grB | apply grC | apply grD | refine grE ?_ (by omega) _ | refine grF ?_ (by omega) _ _))⟩
            case measure => have := HK.out; omega
      · obtain rfl : i = 7 := by omega
        have hu8 : u ≤ 7 := by rw [HU.out]; exact cntU_le us 7
        have hwg : w.grows wr := hwc.trans hg
        by_cases hps : ps = []
        · subst hps
          simp only [List.length_nil] at *
          by_cases hc : cntU us 7 ≤ 1
          · have hc' : u ≤ 1 := by rw [HU.out]; exact hc
            have k5 : ∀ W g0, wc.grows W → W.row g0 = some (.cells (formC us (.slice a5 0 c5) ++ formC us (.slice a5 0 c5)).toArray 30) → Calls Try.prog 38 #[.bool true, .slice (some ⟨g0, 0, none⟩) 2 2] W (fun e w' => ∃ a c, e = .returned (.agg (formC us (.slice a 0 c)).toArray) ∧ W.grows w' ∧ FormOk w' (fun _ => True) (.mk us []) (formC us (.slice a 0 c))) := fun W g0 hW h => (pickTwo_any us h57 MY.out hc W g0 _ (HF9.out.grows hW) h).mono fun e w' ⟨a, c, h1, h2, h3, h4, h5⟩ => ⟨a, c, h1, h2, (FormOk_of_parts (f := .mk us []) h3 h4 h5).keep (fun _ _ _ => ⟨rfl, trivial⟩)⟩
            have k6 : ∀ W g0, wc.grows W → W.row g0 = some (.cells (formC us (.slice a5 0 c5) ++ (formC us (.slice a5 0 c5) ++ formC us (.slice a5 0 c5))).toArray 30) → Calls Try.prog 38 #[.bool false, .slice (some ⟨g0, 0, none⟩) 3 3] W (fun e w' => ∃ a c, e = .returned (.agg (formC us (.slice a 0 c)).toArray) ∧ W.grows w' ∧ FormOk w' (fun _ => True) (.mk us []) (formC us (.slice a 0 c))) := fun W g0 hW h => (pickThree_any us h57 MY.out hc W g0 _ (HF9.out.grows hW) h).mono fun e w' ⟨a, c, h1, h2, h3, h4, h5⟩ => ⟨a, c, h1, h2, (FormOk_of_parts (f := .mk us []) h3 h4 h5).keep (fun _ _ _ => ⟨rfl, trivial⟩)⟩
            have C5 := Lib.hid k5; have C6 := Lib.hid k6
            clear k5 k6 hc HU
            go_upto_region 16 with fail
            refine wp_region_plus_seq (by kernel_rfl) (by kernel_rfl) (fun x0 => ?_)
            repeat (any_goals (first | (refine wpSeqL_free rfl ?_; first | (go_big_quiet_skip; refine wpQuiet_nil ?_) | (go_big_quiet_step (fail); refine wpQuiet_nil ?_) | (refine wpQuiet_step (fun K hK => ?_); go_simp; split <;> (refine hK _ ?_; clear hK K; refine wpQuiet_nil ?_))) | (refine wpSeqL_link rfl (fun K hK => ?_); go_simp; first | first | (refine hK _ _ (by show World.grows _ _; repeat (first | assumption | exact grA | apply grB | apply grC | apply grD)) ?_; clear hK K) | (((first | (go_at_call 38; (with_reducible refine (C5.out _ _ (by repeat (with_reducible first | assumption | exact grA | apply grB | apply grC | apply grD | refine grE ?_ (by omega) _ | refine grF ?_ (by omega) _ _)) (by simp [go_sem, hr2, zr2])).mono ?_); rintro e w3 ⟨a7, c7, rfl, hg7, h7⟩; have hgw3 : wr.grows w3 := World.grows.trans (by repeat (with_reducible first | assumption | exact grA | apply grB | apply grC | apply grD | refine grE ?_ (by omega) _ | refine grF ?_ (by omega) _ _)) hg7; have hcw3 : wc.grows w3 := World.grows.trans hg hgw3; have hww3 : w.grows w3 := World.grows.trans hwc hcw3; have hr3 := (hgw3.row_eq zr2.1).trans hr2; have zr3 := row_sz' hr3; have H7 := Lib.hid h7; clear h7 hg7) | (go_at_call 26; (with_reducible refine (same_any (.mk us []) _ _ _ _ _ (H7.out.grows (by repeat (with_reducible first | assumption | exact grA | apply grB | apply grC | apply grD | refine grE ?_ (by omega) _ | refine grF ?_ (by omega) _ _))) (HF9.out.grows (by repeat (with_reducible first | assumption | exact grA | apply grB | apply grC | apply grD | refine grE ?_ (by omega) _ | refine grF ?_ (by omega) _ _)))).mono ?_); rintro e w4 ⟨rfl, x4, rfl⟩) | (go_at_call 38; (with_reducible refine (C6.out _ _ (by repeat (with_reducible first | assumption | exact grA | apply grB | apply grC | apply grD | refine grE ?_ (by omega) _ | refine grF ?_ (by omega) _ _)) (by simp [go_sem, hr3, zr3])).mono ?_); rintro e w5 ⟨a8, c8, rfl, hg8, h8⟩; have hgw5 : w3.grows w5 := World.grows.trans (by repeat (with_reducible first | assumption | exact grA | apply grB | apply grC | apply grD | refine grE ?_ (by omega) _ | refine grF ?_ (by omega) _ _)) hg8; have hrw5 : wr.grows w5 := World.grows.trans hgw3 hgw5; have hcw5 : wc.grows w5 := World.grows.trans hcw3 hgw5; have hww5 : w.grows w5 := World.grows.trans hwc hcw5; have hr5 := (hgw5.row_eq zr3.1).trans hr3; have zr5 := row_sz' hr5; have H8 := Lib.hid h8; clear h8 hg8) | (go_at_call 26; (with_reducible refine (same_any (.mk us []) _ _ _ _ _ (H8.out.grows (by repeat (with_reducible first | assumption | exact grA | apply grB | apply grC | apply grD | refine grE ?_ (by omega) _ | refine grF ?_ (by omega) _ _))) (HF9.out.grows (by repeat (with_reducible first | assumption | exact grA | apply grB | apply grC | apply grD | refine grE ?_ (by omega) _ | refine grF ?_ (by omega) _ _)))).mono ?_); rintro e w6 ⟨rfl, x6, rfl⟩) | (go_at_call 19; (with_reducible refine (awake12_any _).mono ?_); rintro e w7 ⟨rfl, x7, rfl⟩))); refine ⟨_, rfl, hK _ _ (by show World.grows _ _; repeat (first | assumption | exact grA | apply grB | apply grC | apply grD)) ?_⟩; clear hK K) | (split <;> (first | (refine hK _ _ (by show World.grows _ _; repeat (first | assumption | exact grA | apply grB | apply grC | apply grD)) ?_; clear hK K) | (((first | (go_at_call 38; (with_reducible refine (C5.out _ _ (by repeat (with_reducible first | assumption | exact grA | apply grB | apply grC | apply grD | refine grE ?_ (by omega) _ | refine grF ?_ (by omega) _ _)) (by simp [go_sem, hr2, zr2])).mono ?_); rintro e w3 ⟨a7, c7, rfl, hg7, h7⟩; have hgw3 : wr.grows w3 := World.grows.trans (by repeat (with_reducible first | assumption | exact grA | apply grB | apply grC | apply grD | refine grE ?_ (by omega) _ | refine grF ?_ (by omega) _ _)) hg7; have hcw3 : wc.grows w3 := World.grows.trans hg hgw3; have hww3 : w.grows w3 := World.grows.trans hwc hcw3; have hr3 := (hgw3.row_eq zr2.1).trans hr2; have zr3 := row_sz' hr3; have H7 := Lib.hid h7; clear h7 hg7) | (go_at_call 26; (with_reducible refine (same_any (.mk us []) _ _ _ _ _ (H7.out.grows (by repeat (with_reducible first | assumption | exact grA | apply grB | apply grC | apply grD | refine grE ?_ (by omega) _ | refine grF ?_ (by omega) _ _))) (HF9.out.grows (by repeat (with_reducible first | assumption | exact grA | apply grB | apply grC | apply grD | refine grE ?_ (by omega) _ | refine grF ?_ (by omega) _ _)))).mono ?_); rintro e w4 ⟨rfl, x4, rfl⟩) | (go_at_call 38; (with_reducible refine (C6.out _ _ (by repeat (with_reducible first | assumption | exact grA | apply grB | apply grC | apply grD | refine grE ?_ (by omega) _ | refine grF ?_ (by omega) _ _)) (by simp [go_sem, hr3, zr3])).mono ?_); rintro e w5 ⟨a8, c8, rfl, hg8, h8⟩; have hgw5 : w3.grows w5 := World.grows.trans (by repeat (with_reducible first | assumption | exact grA | apply grB | apply grC | apply grD | refine grE ?_ (by omega) _ | refine grF ?_ (by omega) _ _)) hg8; have hrw5 : wr.grows w5 := World.grows.trans hgw3 hgw5; have hcw5 : wc.grows w5 := World.grows.trans hcw3 hgw5; have hww5 : w.grows w5 := World.grows.trans hwc hcw5; have hr5 := (hgw5.row_eq zr3.1).trans hr3; have zr5 := row_sz' hr5; have H8 := Lib.hid h8; clear h8 hg8) | (go_at_call 26; (with_reducible refine (same_any (.mk us []) _ _ _ _ _ (H8.out.grows (by repeat (with_reducible first | assumption | exact grA | apply grB | apply grC | apply grD | refine grE ?_ (by omega) _ | refine grF ?_ (by omega) _ _))) (HF9.out.grows (by repeat (with_reducible first | assumption | exact grA | apply grB | apply grC | apply grD | refine grE ?_ (by omega) _ | refine grF ?_ (by omega) _ _)))).mono ?_); rintro e w6 ⟨rfl, x6, rfl⟩) | (go_at_call 19; (with_reducible refine (awake12_any _).mono ?_); rintro e w7 ⟨rfl, x7, rfl⟩))); refine ⟨_, rfl, hK _ _ (by show World.grows _ _; repeat (first | assumption | exact grA | apply grB | apply grC | apply grD)) ?_⟩; clear hK K))))))
            all_goals (refine wpSeqL_end ?_)
            go_wp2_with fail
            all_goals go_ret
            all_goals exact ⟨rfl, (by repeat (with_reducible first | assumption | exact grA | apply grB | apply grC | apply grD | refine grE ?_ (by omega) _ | refine grF ?_ (by omega) _ _))⟩
          · have hc' : ¬ u ≤ 1 := by rw [HU.out]; exact hc
            clear hc HU
            go_wp2_with (go_at_call 19; (with_reducible refine (awake12_any _).mono ?_); rintro e w1 ⟨rfl, x1, rfl⟩)
            all_goals go_ret
            all_goals exact ⟨rfl, (by repeat (with_reducible first | assumption | exact grA | apply grB | apply grC | apply grD | refine grE ?_ (by omega) _ | refine grF ?_ (by omega) _ _))⟩
        · have hpl : ¬ ps.length = 0 := fun h => hps (List.eq_nil_of_length_eq_zero h)
          clear hps HU
          go_wp2_with (go_at_call 19; (with_reducible refine (awake12_any _).mono ?_); rintro e w1 ⟨rfl, x1, rfl⟩)
          all_goals go_ret
          all_goals exact ⟨rfl, (by repeat (with_reducible first | assumption | exact grA | apply grB | apply grC | apply grD | refine grE ?_ (by omega) _ | refine grF ?_ (by omega) _ _))⟩

set_option maxRecDepth 100000 in
set_option maxHeartbeats 8000000 in
theorem normTwice_noA (ma mb : Nat) (ta tb : Ex) (csa csb : List Value) (w : World) (ha : ExAt w ma ta csa) (hb : ExAt w mb tb csb) (hszb : szE mb tb ≤ 1048576) (h0a : askE ma ta 2 ≠ 0) :
    Calls Try.prog 10 #[.agg csa.toArray, .agg csb.toArray] w (Gives w (.bool true)) := by
  have c1 : ∀ W, w.grows W → _ := fun W hW => normForm_no ma ta csa W (ha.grows hW) h0a
  by_cases h0b : askE mb tb 2 = 0
  · have c2 : ∀ W, w.grows W → Calls Try.prog 16 #[.agg csb.toArray] W (FormT W (fun _ => True) (formE mb tb)) := fun W hW => normForm_ok mb tb csb W (fun _ => True) (fun _ _ => trivial) (hb.grows hW) h0b hszb
    generalize formE mb tb = G at *
    obtain ⟨p0, p1, p2, p3, pa, pl, pc, rfl⟩ := ExAt_vals ha
    obtain ⟨q0, q1, q2, q3, qa, ql, qc, rfl⟩ := ExAt_vals hb
    generalize askE ma ta 2 = X at *
    have hx : (X == 0) = false := by simpa using h0a
    have hx2 : (X != 0) = true := by simpa using h0a
    have C1 := Lib.hid c1; have C2 := Lib.hid c2; clear c1 c2 ha hb
    go_enter Try.func10, Try.ntmps10
    go_wp2_with (first | (go_at_call 16; (with_reducible refine (C1.out _ (by repeat (with_reducible first | assumption | exact grA | apply grB | apply grC | apply grD | refine grE ?_ (by omega) _ | refine grF ?_ (by omega) _ _))).mono ?_); rintro e w1 ⟨rfl, x1, rfl⟩) | (go_at_call 16; (with_reducible refine (C2.out _ (by repeat (with_reducible first | assumption | exact grA | apply grB | apply grC | apply grD | refine grE ?_ (by omega) _ | refine grF ?_ (by omega) _ _))).mono ?_); rintro e w2 ⟨a2, c2, rfl, hg2, h27, h2b, h2s⟩; have hgw2 : w.grows w2 := World.grows.trans (by repeat (with_reducible first | assumption | exact grA | apply grB | apply grC | apply grD | refine grE ?_ (by omega) _ | refine grF ?_ (by omega) _ _)) hg2; have rb := hg2.row_eq (g := w.heap.size + 1) (by simp <;> omega); simp [go_sem] at rb; have tb := row_sz' rb; clear h2b h2s hg2) | (go_at_call 19; (with_reducible refine (awake12_any _).mono ?_); rintro e w9 ⟨rfl, x9, rfl⟩))
    all_goals go_ret
    all_goals exact ⟨rfl, (by repeat (with_reducible first | assumption | exact grA | apply grB | apply grC | apply grD | refine grE ?_ (by omega) _ | refine grF ?_ (by omega) _ _))⟩
  · have c2 : ∀ W, w.grows W → _ := fun W hW => normForm_no mb tb csb W (hb.grows hW) h0b
    obtain ⟨p0, p1, p2, p3, pa, pl, pc, rfl⟩ := ExAt_vals ha
    obtain ⟨q0, q1, q2, q3, qa, ql, qc, rfl⟩ := ExAt_vals hb
    generalize askE ma ta 2 = X at *
    generalize askE mb tb 2 = Y at *
    have hx : (X == 0) = false := by simpa using h0a
    have hx2 : (X != 0) = true := by simpa using h0a
    have C1 := Lib.hid c1; have C2 := Lib.hid c2; clear c1 c2 ha hb
    go_enter Try.func10, Try.ntmps10
    go_wp2_with (first | (go_at_call 16; (with_reducible refine (C1.out _ (by repeat (with_reducible first | assumption | exact grA | apply grB | apply grC | apply grD | refine grE ?_ (by omega) _ | refine grF ?_ (by omega) _ _))).mono ?_); rintro e w1 ⟨rfl, x1, rfl⟩) | (go_at_call 16; (with_reducible refine (C2.out _ (by repeat (with_reducible first | assumption | exact grA | apply grB | apply grC | apply grD | refine grE ?_ (by omega) _ | refine grF ?_ (by omega) _ _))).mono ?_); rintro e w2 ⟨rfl, x2, rfl⟩) | (go_at_call 19; (with_reducible refine (awake12_any _).mono ?_); rintro e w9 ⟨rfl, x9, rfl⟩))
    all_goals go_ret
    all_goals exact ⟨rfl, (by repeat (with_reducible first | assumption | exact grA | apply grB | apply grC | apply grD | refine grE ?_ (by omega) _ | refine grF ?_ (by omega) _ _))⟩
set_option maxRecDepth 100000 in
set_option maxHeartbeats 8000000 in
theorem normTwice_noB (ma mb : Nat) (ta tb : Ex) (csa csb : List Value) (w : World) (ha : ExAt w ma ta csa) (hb : ExAt w mb tb csb) (hsza : szE ma ta ≤ 1048576) (h0a : askE ma ta 2 = 0) (h0b : askE mb tb 2 ≠ 0) :
    Calls Try.prog 10 #[.agg csa.toArray, .agg csb.toArray] w (Gives w (.bool true)) := by
  have c1 : ∀ W, w.grows W → Calls Try.prog 16 #[.agg csa.toArray] W (FormT W (fun _ => True) (formE ma ta)) := fun W hW => normForm_ok ma ta csa W (fun _ => True) (fun _ _ => trivial) (ha.grows hW) h0a hsza
  have c2 : ∀ W, w.grows W → _ := fun W hW => normForm_no mb tb csb W (hb.grows hW) h0b
  generalize formE ma ta = F at *
  obtain ⟨p0, p1, p2, p3, pa, pl, pc, rfl⟩ := ExAt_vals ha
  obtain ⟨q0, q1, q2, q3, qa, ql, qc, rfl⟩ := ExAt_vals hb
  generalize askE mb tb 2 = Y at *
  have hx : (Y == 0) = false := by simpa using h0b
  have hx2 : (Y != 0) = true := by simpa using h0b
  have C1 := Lib.hid c1; have C2 := Lib.hid c2; clear c1 c2 ha hb
  go_enter Try.func10, Try.ntmps10
  go_wp2_with (first | (go_at_call 16; (with_reducible refine (C1.out _ (by repeat (with_reducible first | assumption | exact grA | apply grB | apply grC | apply grD | refine grE ?_ (by omega) _ | refine grF ?_ (by omega) _ _))).mono ?_); rintro e w1 ⟨a1, c1, rfl, hg1, h17, h1b, h1s⟩; have hgw1 : w.grows w1 := World.grows.trans (by repeat (with_reducible first | assumption | exact grA | apply grB | apply grC | apply grD | refine grE ?_ (by omega) _ | refine grF ?_ (by omega) _ _)) hg1; have rb := hg1.row_eq (g := w.heap.size + 1) (by simp <;> omega); simp [go_sem] at rb; have tb := row_sz' rb; clear h1b h1s hg1) | (go_at_call 16; (with_reducible refine (C2.out _ (by repeat (with_reducible first | assumption | exact grA | apply grB | apply grC | apply grD | refine grE ?_ (by omega) _ | refine grF ?_ (by omega) _ _))).mono ?_); rintro e w2 ⟨rfl, x2, rfl⟩) | (go_at_call 19; (with_reducible refine (awake12_any _).mono ?_); rintro e w9 ⟨rfl, x9, rfl⟩))
  all_goals go_ret
  all_goals exact ⟨rfl, (by repeat (with_reducible first | assumption | exact grA | apply grB | apply grC | apply grD | refine grE ?_ (by omega) _ | refine grF ?_ (by omega) _ _))⟩
theorem normTwice_law (ma mb : Nat) (ta tb : Ex) (csa csb : List Value) (w : World) (ha : ExAt w ma ta csa) (hb : ExAt w mb tb csb) (hsz : szE ma ta + szE mb tb + 2 ≤ 1048576) :
    Calls Try.prog 10 #[.agg csa.toArray, .agg csb.toArray] w (Gives w (.bool true)) := by
  by_cases h0a : askE ma ta 2 = 0
  · by_cases h0b : askE mb tb 2 = 0
    · exact normTwice_yes ma mb ta tb csa csb w ha hb hsz h0a h0b
    · exact normTwice_noB ma mb ta tb csa csb w ha hb (by omega) h0a h0b
  · exact normTwice_noA ma mb ta tb csa csb w ha hb (by omega) h0a

theorem normTwice_own : ownKnob Try.prog.godebug = none := by kernel_rfl
theorem normTwice_laidOut : laidOutB Try.prog = true := by kernel_rfl
set_option maxRecDepth 100000 in
set_option maxHeartbeats 2000000 in
theorem normTwice_lifted (os : Os) (started : os.Started) (H : Type) (enc : TypeId × Value → H) (F : Stop.Interp) :
    ReturnsInHanded {} Try.checked os 10 .any ((Rows.OpenSpec.upto Rows.normTwiceSpec).pre6 enc Try.prog Try.f10 Rows.normTwiceUptoRow.domain false) (((Rows.OpenSpec.upto Rows.normTwiceSpec).at F).post enc Try.prog Try.f10 false true false false) := by
  refine returnsInHanded_of_cond (C := Try.checked) (s := Rows.OpenSpec.upto Rows.normTwiceSpec) (k := Rows.uptoSmall) rfl normTwice_own started (by kernel_rfl) Try.func10
    (OpenSpec.witness (enc := enc) (C := Try.checked) (s := Rows.OpenSpec.upto Rows.normTwiceSpec) (k := Rows.uptoSmall) rfl false ⟨#[], #[.agg #[.int .i64 0, .int .i64 0, .int .i64 0, .int .i64 0, .slice none 0 0], .agg #[.int .i64 0, .int .i64 0, .int .i64 0, .int .i64 0, .slice none 0 0]], []⟩ 8 (by kernel_rfl) (by kernel_rfl) (by kernel_rfl)
      (x := ([.agg [.lit (.int .i64 0), .agg [.lit (.int .i64 0), .lit (.int .i64 0)], .lit (.int .i64 0), .nil], .agg [.lit (.int .i64 0), .agg [.lit (.int .i64 0), .lit (.int .i64 0)], .lit (.int .i64 0), .nil]], [], [])) (by kernel_rfl) rfl (by kernel_rfl)) ?_
  intro W base args ds gs before hval0 hW hcnd hk _
  have hval : ∀ (j : Nat) t v, Try.f10.params[j]? = some t → args[j]? = some v → Value.okWide Try.prog W .any base t v := hval0
  have hW' := hW
  obtain ⟨p, q, hA0, hV, rfl, hfz, hnd⟩ := hW
  have hA : DataW.TrodAll enc Try.prog W 0 (fun _ => true) true Try.f10.params.toList args.toList ds p := hA0
  rw [Try.params10] at hA hval
  obtain ⟨v0, vs0, d0, ds0, p0, q0, hargs, rfl, rfl, h0, r0⟩ := trodAll_cons hA
  obtain ⟨v1, vs1, d1, ds1, p1, q1, rfl, rfl, rfl, h1, r1⟩ := trodAll_cons r0
  obtain ⟨rfl, rfl, rfl⟩ := trodAll_nil r1
  obtain rfl : args = #[v0, v1] := by cases args; simp_all
  obtain ⟨rfl, rfl⟩ := trodVars_none hV
  have hbk := bulk_bound hk
  simp only [List.append_nil, Rows.uptoBulkAll] at hbk
  have k0 := h0
  have lt0 : ∀ x ∈ p0, x.block < W.heap.size := by obtain ⟨m, hm⟩ := k0; exact DataW.trod_lt m _ _ _ hm
  have k1 := h1
  have lt1 : ∀ x ∈ p1, x.block < W.heap.size := by obtain ⟨m, hm⟩ := k1; exact DataW.trod_lt m _ _ _ hm
  obtain ⟨m_E, t_E, cs_E, rfl, h_E, b_E⟩ := ex_arg (hval 0 26 v0 rfl rfl) h0
  obtain ⟨m_G, t_G, cs_G, rfl, h_G, b_G⟩ := ex_arg (hval 1 26 v1 rfl rfl) h1
  clear hA0 hval0
  refine (normTwice_law m_E m_G t_E t_G cs_E cs_G W h_E h_G (by omega)).mono fun e W' ⟨he, grw⟩ => ?_
  subst he
  have bel := grw.below
  exact ⟨_, rfl, _, _, _, [], _, [], hW', trodAll_mk1 (shut_bool Try.underlying4 _), (trodAll_cons_mk (Below.trod normTwice_laidOut (by kernel_rfl) (of_decide_eq_true (by kernel_rfl)) k0 bel lt0) (trodAll_cons_mk (Below.trod normTwice_laidOut (by kernel_rfl) (of_decide_eq_true (by kernel_rfl)) k1 bel lt1) trodAll_mk0)), rfl, bel.frame _, fun h => by cases h⟩

/-- THE STATEMENT -/
theorem normTwice_holds : Rows.NormTwiceUptoSaid :=
  OpenClaim.holds_of_cond 10 Try.f10 rfl rfl rfl rfl rfl rfl rfl ⟨rfl, rfl, rfl, rfl, rfl⟩ rfl rfl rfl rfl rfl (by kernel_rfl) Try.func10 (by kernel_rfl)
    (of_decide_eq_true (by kernel_rfl)) (by unfold Func.isWrapper; first | (rw [if_pos (by decide +kernel)]; kernel_rfl) | (rw [if_neg (by decide +kernel)]; exact ⟨rfl, rfl⟩))
    (fun os started H enc _ F => normTwice_lifted os started H enc F)
#print axioms normTwice_holds
end Go.Proofs.Ythmicnjigfcljaa

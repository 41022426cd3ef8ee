/- For any two expressions, a number and a context whose values are no more than 1048576 in number the statement UnitLinear answers true: the length of a sum is the sum of the lengths; of a multiple the multiple; or something is over. -/
import Derived.Test.YthmicnjigfcljaaRows
import Derived.Test.YthmicnjigfcljaaLinP
import Derived.Test.YthmicnjigfcljaaFlt
import Derived.Test.YthmicnjigfcljaaUPx
import Derived.Test.YthmicnjigfcljaaRForm4
import Derived.Test.YthmicnjigfcljaaRFmScale
import Derived.Test.YthmicnjigfcljaaOpenX
import Derived.JoinedCond
set_option linter.unusedSimpArgs false
set_option linter.unusedVariables false
namespace Go.Proofs.Ythmicnjigfcljaa
open Go.ChangeShapes Go.WideShapes Go.ChangeAt Go.RowKit

theorem mul2_bd (p q : Int × Int) : I64p (foldQ (1, 1) mulQ [p, q]) := by
  show I64p (if sureP p = true then (if (sureP p && sureP q) = true then mulQ p q else (0, 0)) else (0, 0))
  have h0 : I64p (0, 0) := by simp [I64p, I64]
  split
  · split
    · exact mulQ_bd _ _
    · exact h0
  · exact h0
mutual
theorem pxF_bdA (sz : Int → Int × Int) : ∀ f, I64p (pxF sz f)
  | .mk us ps => by
    rw [pxF]
    refine foldQ_bd addQ_bd (by simp [I64p, I64]) fun p hp => ?_
    rcases List.mem_append.1 hp with h | h
    · obtain ⟨i, _, rfl⟩ := List.mem_map.1 h
      exact mul2_bd _ _
    · exact pxP_bdA sz ps p h
theorem pxP_bdA (sz : Int → Int × Int) : ∀ ps, ∀ p ∈ pxP sz ps, I64p p
  | [], p, h => by rw [pxP] at h; cases h
  | q :: ps, p, h => by
    rw [pxP] at h
    rcases List.mem_cons.1 h with rfl | h
    · exact pxQ_bdA sz q
    · exact pxP_bdA sz ps p h
theorem pxQ_bdA (sz : Int → Int × Int) : ∀ p, I64p (pxQ sz p)
  | (b, l) => by rw [pxQ]; exact bestQ_bd (pxL_bdA sz l)
theorem pxL_bdA (sz : Int → Int × Int) : ∀ l, ∀ p ∈ pxL sz l, I64p p
  | [], p, h => by rw [pxL] at h; cases h
  | f :: l, p, h => by
    rw [pxL] at h
    rcases List.mem_cons.1 h with rfl | h
    · exact pxF_bdA sz f
    · exact pxL_bdA sz l p h
end
theorem ite_bd {b : Bool} {p : Int × Int} (h : I64p p) : I64p (if b then p else (0, 0)) := by cases b; simp [I64p, I64]; exact h
/-- the same, or one of the two over -/
def agr (s t : Int × Int) : Prop := s = t ∨ s.2 = 0 ∨ t.2 = 0
theorem agr_of {s t : Int × Int} (hs : mayB s.1 s.2 = true) (ht : mayB t.1 t.2 = true) (h : sureP s = true → sureP t = true → s = t) : agr s t := by
  rcases sure_or_none hs with h1 | rfl
  · rcases sure_or_none ht with h2 | rfl
    · exact .inl (h h1 h2)
    · exact .inr (.inr rfl)
  · exact .inr (.inl rfl)
theorem foldMul_may (l : List (Int × Int)) : mayB (foldQ (1, 1) mulQ l).1 (foldQ (1, 1) mulQ l).2 = true := foldQ_isMay (fun _ _ => mulQ_over) mulQ_may (by decide) l
theorem foldAdd_may (l : List (Int × Int)) : mayB (foldQ (0, 1) addQ l).1 (foldQ (0, 1) addQ l).2 = true := foldQ_isMay (fun _ _ => addQ_over) addQ_may (by decide) l
theorem pxF_may (sz : Int → Int × Int) (f : Fm) : mayB (pxF sz f).1 (pxF sz f).2 = true := by
  obtain ⟨us, ps⟩ := f
  rw [pxF_eq]; exact foldAdd_may _
theorem iteP_may {b : Bool} {p : Int × Int} (h : mayB p.1 p.2 = true) : mayB (if b then p else (0, 0)).1 (if b then p else (0, 0)).2 = true := by cases b; rfl; exact h
theorem iteP_sure {b : Bool} {p : Int × Int} (h : sureP (if b then p else (0, 0)) = true) : b = true ∧ sureP p = true := by
  cases b
  · have : sureP (0, 0) = true := h
    exact absurd this (by decide)
  · exact ⟨rfl, h⟩
theorem nf_len {f : Fm} (h : NF f) : f.us.length = 7 := by cases h; assumption
/-- the two laws of lengths, with the program's own tests -/
theorem lin_sum (sz : Int → Int × Int) (f g : Fm) : agr (if mayF 340 (addF [f, g]) then pxF sz (addF [f, g]) else (0, 0)) (foldQ (0, 1) addQ [if mayF 340 f then pxF sz f else (0, 0), if mayF 340 g then pxF sz g else (0, 0)]) :=
  agr_of (iteP_may (pxF_may _ _)) (foldAdd_may _) fun hs ht => by
    obtain ⟨e1, h1⟩ := iteP_sure hs
    obtain ⟨t1, _⟩ := foldAdd_val ht
    obtain ⟨e2, _⟩ := iteP_sure (t1 _ (List.mem_cons_self ..))
    obtain ⟨e3, _⟩ := iteP_sure (t1 (if mayF 340 g then pxF sz g else (0, 0)) (by simp))
    rw [e2, e3] at ht ⊢
    rw [e1]
    exact px_sum f g h1 ht
theorem lin_mul (sz : Int → Int × Int) (k : Int × Int) {f : Fm} (hf : NF f) : agr (if mayF 340 (scaleF (cleanQ k) f) then pxF sz (scaleF (cleanQ k) f) else (0, 0)) (foldQ (1, 1) mulQ [if mayF 340 f then pxF sz f else (0, 0), k]) :=
  agr_of (iteP_may (pxF_may _ _)) (foldMul_may _) fun hs ht => by
    obtain ⟨e1, h1⟩ := iteP_sure hs
    obtain ⟨t1, _, _⟩ := foldMul_val ht
    obtain ⟨e2, _⟩ := iteP_sure t1
    rw [e2] at ht ⊢
    rw [e1]
    exact px_times hf h1 ht

set_option maxRecDepth 100000 in
set_option maxHeartbeats 8000000 in
theorem unitLinear_yes (m n : Nat) (t u : Ex) (csa csb : List Value) (k1 k2 c1 c2 c3 c4 c5 c6 c7 c8 c9 c10 c11 c12 : Int) (w : World) (ha : ExAt w m t csa) (hb : ExAt w n u csb) (hsz : szE m t + szE n u + 2 ≤ 1048576) (h0a : askE m t 2 = 0) (h0b : askE n u 2 = 0)
    (wk1 : I64 k1) (wk2 : I64 k2) (hcb : Cx.bd ⟨(c1, c2), (c3, c4), (c5, c6), (c7, c8), (c9, c10), (c11, c12)⟩) :
    Calls Try.prog 13 #[.agg csa.toArray, .agg csb.toArray, .agg #[.int .i64 k1, .int .i64 k2], .agg #[.int .i64 c1, .int .i64 c2, .int .i64 c3, .int .i64 c4, .int .i64 c5, .int .i64 c6, .int .i64 c7, .int .i64 c8, .int .i64 c9, .int .i64 c10, .int .i64 c11, .int .i64 c12]] w (Gives w (.bool true)) := by
  obtain ⟨hma, hka⟩ := ask_zero h0a
  obtain ⟨hmb, hkb⟩ := ask_zero h0b
  have kind0 : ∀ (m : Nat) (t : Ex) (cs : List Value), ExAt w m t cs → mayE m 340 t = true → kindE m t = 2 → ∀ W, w.grows W → Calls Try.prog 17 #[.agg cs.toArray] W (Gives W (.tuple #[.int .i64 2, .int .i64 0])) := fun m t cs h hm hk W hW => by
    have := ref12Kind_any m t cs W (h.grows hW)
    rw [hm, if_pos rfl, if_pos rfl, hk, if_neg (by decide)] at this
    exact this
  have q1 := kind0 m t csa ha hma hka
  have q2 := kind0 n u csb hb hmb hkb
  have q3 : ∀ W (S : Nat → Prop), (∀ g, W.heap.size ≤ g → S g) → w.grows W → Calls Try.prog 20 #[.agg csa.toArray] W (FormP W S (formE m t)) := fun W S hS hW => rform_all m t csa 340 W S hS (ha.grows hW) hma (Nat.le_refl _) hka (by omega)
  have q4 : ∀ W (S : Nat → Prop), (∀ g, W.heap.size ≤ g → S g) → w.grows W → Calls Try.prog 20 #[.agg csb.toArray] W (FormP W S (formE n u)) := fun W S hS hW => rform_all n u csb 340 W S hS (hb.grows hW) hmb (Nat.le_refl _) hkb (by omega)
  have hnf := NF_formE m t
  have hF7 := nf_len hnf
  have hG7 := nf_len (NF_formE n u)
  have hmuA := formE_may m 340 t hma
  have hmuB := formE_may n 340 u hmb
  have szA := szF_formE m 340 t hma
  have szB := szF_formE n 340 u hmb
  generalize formE m t = F at *
  generalize formE n u = G at *
  have q5 : ∀ W cs', FormOk W (fun _ => True) F cs' → _ := fun W cs' hf => unitPx_any ⟨(c1, c2), (c3, c4), (c5, c6), (c7, c8), (c9, c10), (c11, c12)⟩ hcb F cs' W _ hf (by omega)
  have q6 : ∀ W cs', FormOk W (fun _ => True) G cs' → _ := fun W cs' hf => unitPx_any ⟨(c1, c2), (c3, c4), (c5, c6), (c7, c8), (c9, c10), (c11, c12)⟩ hcb G cs' W _ hf (by omega)
  have szH : szF (addF [F, G]) ≤ 4194304 := by have := szF_addF [F, G]; simp [szM] at this; omega
  have q7 : ∀ W cs', FormOk W (fun _ => True) (addF [F, G]) cs' → _ := fun W cs' hf => unitPx_any ⟨(c1, c2), (c3, c4), (c5, c6), (c7, c8), (c9, c10), (c11, c12)⟩ hcb (addF [F, G]) cs' W _ hf szH
  have szI : szF (scaleF (cleanQ (k1, k2)) F) ≤ 4194304 := Nat.le_trans (szF_scale _ _) (by omega)
  have q8 : ∀ W cs', FormOk W (fun _ => True) (scaleF (cleanQ (k1, k2)) F) cs' → _ := fun W cs' hf => unitPx_any ⟨(c1, c2), (c3, c4), (c5, c6), (c7, c8), (c9, c10), (c11, c12)⟩ hcb (scaleF (cleanQ (k1, k2)) F) cs' W _ hf szI
  have ag1 := lin_sum (sizeQ ⟨(c1, c2), (c3, c4), (c5, c6), (c7, c8), (c9, c10), (c11, c12)⟩) F G
  have ag2 := lin_mul (sizeQ ⟨(c1, c2), (c3, c4), (c5, c6), (c7, c8), (c9, c10), (c11, c12)⟩) (k1, k2) hnf
  have q9 : ∀ W (S : Nat → Prop) g0 vf vg, (∀ g, W.heap.size ≤ g → S g) → S g0 → FormOk W S F (formC F.us vf) → FormOk W S G (formC G.us vg) → W.row g0 = some (.cells (formC F.us vf ++ formC G.us vg).toArray 30) → Calls Try.prog 35 #[.slice (some ⟨g0, 0, none⟩) 2 2] W (FormP W S (addF [F, G])) := fun W S g0 vf vg hS h0 hf hg hr => by
    refine refAddF_any [F, G] _ W S hS (slAt_two hr h0 hf hg) (fun f hf => ?_) (by simp) ?_
    · simp only [List.mem_cons, List.not_mem_nil, or_false] at hf
      rcases hf with rfl | rfl
      · exact hmuA
      · exact hmuB
    · have h1 := szP_flat [F, G]; have h2 := szP_len ([F, G].flatMap Fm.ps); simp only [szM, List.length_cons, List.length_nil] at h1; omega
  have q10 : ∀ W (S : Nat → Prop) cs', (∀ g, W.heap.size ≤ g → S g) → FormOk W S F cs' → Calls Try.prog 29 #[.agg cs'.toArray, .agg #[.int .i64 k1, .int .i64 k2]] W (FormP W S (scaleF (cleanQ (k1, k2)) F)) := fun W S cs' hS h => refScale_any F cs' k1 k2 W S hS h wk1 wk2 (by omega)
  generalize scaleF (cleanQ (k1, k2)) F = I at *
  generalize addF [F, G] = H at *
  have bP : I64p (if mayF 340 F then pxF (sizeQ ⟨(c1, c2), (c3, c4), (c5, c6), (c7, c8), (c9, c10), (c11, c12)⟩) F else (0, 0)) := ite_bd (pxF_bdA _ _)
  have bQ : I64p (if mayF 340 G then pxF (sizeQ ⟨(c1, c2), (c3, c4), (c5, c6), (c7, c8), (c9, c10), (c11, c12)⟩) G else (0, 0)) := ite_bd (pxF_bdA _ _)
  generalize (if mayF 340 F then pxF (sizeQ ⟨(c1, c2), (c3, c4), (c5, c6), (c7, c8), (c9, c10), (c11, c12)⟩) F else (0, 0)) = P at *
  generalize (if mayF 340 G then pxF (sizeQ ⟨(c1, c2), (c3, c4), (c5, c6), (c7, c8), (c9, c10), (c11, c12)⟩) G else (0, 0)) = Q at *
  generalize (if mayF 340 H then pxF (sizeQ ⟨(c1, c2), (c3, c4), (c5, c6), (c7, c8), (c9, c10), (c11, c12)⟩) H else (0, 0)) = X at *
  generalize (if mayF 340 I then pxF (sizeQ ⟨(c1, c2), (c3, c4), (c5, c6), (c7, c8), (c9, c10), (c11, c12)⟩) I else (0, 0)) = U at *
  have q11 : ∀ W g0, W.row g0 = some (.cells #[.int .i64 P.1, .int .i64 P.2, .int .i64 Q.1, .int .i64 Q.2] 23) → Calls Try.prog 43 #[.slice (some ⟨g0, 0, none⟩) 2 2] W (Gives W (ratV (foldQ (0, 1) addQ [P, Q]))) := fun W g0 h => refAddL_any _ _ W (rats2 h bP bQ)
  have q12 : ∀ W g0, W.row g0 = some (.cells #[.int .i64 P.1, .int .i64 P.2, .int .i64 k1, .int .i64 k2] 23) → Calls Try.prog 44 #[.slice (some ⟨g0, 0, none⟩) 2 2] W (Gives W (ratV (foldQ (1, 1) mulQ [P, (k1, k2)]))) := fun W g0 h => refMulL_any _ _ W (rats2 h bP ⟨wk1, wk2⟩)
  generalize foldQ (0, 1) addQ [P, Q] = Y at *
  generalize foldQ (1, 1) mulQ [P, (k1, k2)] = Z at *
  obtain ⟨P1, P2⟩ := P; obtain ⟨Q1, Q2⟩ := Q; obtain ⟨X1, X2⟩ := X; obtain ⟨Y1, Y2⟩ := Y; obtain ⟨U1, U2⟩ := U; obtain ⟨Z1, Z2⟩ := Z
  dsimp only at q5 q6 q7 q8 q11 q12
  obtain ⟨v0, v1, v2, v3, va, vl, vc, rfl⟩ := ExAt_vals ha
  obtain ⟨u0, u1, u2, u3, ua, ul, uc, rfl⟩ := ExAt_vals hb
  have K1 := Lib.hid q1; have K2 := Lib.hid q2; have K3 := Lib.hid q3; have K4 := Lib.hid q4; have K5 := Lib.hid q5; have K6 := Lib.hid q6; have K7 := Lib.hid q7; have K8 := Lib.hid q8; have K9 := Lib.hid q9; have K10 := Lib.hid q10; have K11 := Lib.hid q11; have K12 := Lib.hid q12
  have A1 := Lib.hid ag1; have A2 := Lib.hid ag2
  clear q1 q2 q3 q4 q5 q6 q7 q8 q9 q10 q11 q12 ag1 ag2 ha hb kind0 hsz h0a h0b hma hmb hka hkb hcb hnf hmuA hmuB szA szB szH szI bP bQ wk1 wk2
  go_enter Try.func13, Try.ntmps13
  go_upto_region 5 with (first | (go_at_call 17; (with_reducible refine (K1.out _ (by repeat (with_reducible first | assumption | exact grA | apply grB | apply grC | apply grD | refine grE ?_ (by omega) _ | refine grF ?_ (by omega) _ _))).mono ?_); rintro e w1 ⟨rfl, x1, rfl⟩) | (go_at_call 17; (with_reducible refine (K2.out _ (by repeat (with_reducible first | assumption | exact grA | apply grB | apply grC | apply grD | refine grE ?_ (by omega) _ | refine grF ?_ (by omega) _ _))).mono ?_); rintro e w2 ⟨rfl, x2, rfl⟩))
  refine abs_rows (w := w) (G := fun W => Code.wp _ _ _ _ W) (by repeat (with_reducible first | assumption | exact grA | apply grB | apply grC | apply grD | refine grE ?_ (by omega) _ | refine grF ?_ (by omega) _ _)) [(w.heap.size, .cells (exL v0 v1 v2 v3 va vl vc).toArray 26), (w.heap.size + 1, .cells (exL u0 u1 u2 u3 ua ul uc).toArray 26), (w.heap.size + 1 + 1, .cells #[.int .i64 k1, .int .i64 k2] 23), (w.heap.size + 1 + 1 + 1, .cells #[.int .i64 c1, .int .i64 c2, .int .i64 c3, .int .i64 c4, .int .i64 c5, .int .i64 c6, .int .i64 c7, .int .i64 c8, .int .i64 c9, .int .i64 c10, .int .i64 c11, .int .i64 c12] 58)] (by simp [go_sem, *]) ?_
  intro V gV hl
  simp only [List.forall_mem_cons, List.not_mem_nil, false_implies, implies_true, and_true] at hl
  obtain ⟨hra, hrb, hrk, hrc⟩ := hl
  have zhra := row_sz' hra
  have zhrb := row_sz' hrb
  have zhrk := row_sz' hrk
  have zhrc := row_sz' hrc
  obtain ⟨J, hJd⟩ : ∃ J : Act → World → (Nat → Bool) → Act → World → Prop, J = (fun a0 w0 L a' W => ∃ (a47 : Option Addr) (c47 : Nat) (a49 : Option Addr) (c49 : Nat) (g13 : Nat) (g14 : Nat), Fr a0 [46, 47, 48, 49, 13, 14] a' ∧ w0.grows W ∧ (L 0 = true → a'.tmps.getD 46 undef = .agg (exL v0 v1 v2 v3 va vl vc).toArray) ∧ (L 1 = true → a'.tmps.getD 47 undef = .agg (formC F.us (.slice a47 F.ps.length c47)).toArray ∧ FormOk W (fun g => True ∧ (L 4 = true → g ≠ g13) ∧ (L 5 = true → g ≠ g14)) F (formC F.us (.slice a47 F.ps.length c47))) ∧ (L 2 = true → a'.tmps.getD 48 undef = .agg (exL u0 u1 u2 u3 ua ul uc).toArray) ∧ (L 3 = true → a'.tmps.getD 49 undef = .agg (formC G.us (.slice a49 G.ps.length c49)).toArray ∧ FormOk W (fun g => True ∧ (L 4 = true → g ≠ g13) ∧ (L 5 = true → g ≠ g14)) G (formC G.us (.slice a49 G.ps.length c49))) ∧ (L 4 = true → a'.tmps.getD 13 undef = .pointer (some ⟨g13, 0, none⟩) ∧ w0.heap.size ≤ g13 ∧ g13 < W.heap.size ∧ ∃ cs : Array Value, cs.size = 15 ∧ (L 6 = true → cs = (formC F.us (.slice a47 F.ps.length c47)).toArray) ∧ W.row g13 = some (.cells cs 30)) ∧ (L 5 = true → a'.tmps.getD 14 undef = .pointer (some ⟨g14, 0, none⟩) ∧ w0.heap.size ≤ g14 ∧ g14 < W.heap.size ∧ ∃ cs : Array Value, cs.size = 15 ∧ (L 7 = true → cs = (formC G.us (.slice a49 G.ps.length c49)).toArray) ∧ W.row g14 = some (.cells cs 30)) ∧ (L 6 = true → L 4 = true) ∧ (L 7 = true → L 5 = true) ∧ (L 4 = true → L 5 = true → g13 ≠ g14)) := ⟨_, rfl⟩
  refine wp_region_inv_lit (by kernel_rfl) (by kernel_rfl) J ?_ ?_ ?_
  · intro L hL
    rw [hJd]
    exact ⟨default, default, default, default, 0, 0, Fr.refl, World.grows.refl, (iN (hL 0 (by decide))), (iN (hL 1 (by decide))), (iN (hL 2 (by decide))), (iN (hL 3 (by decide))), (iN (hL 4 (by decide))), (iN (hL 5 (by decide))), (iN (hL 6 (by decide))), (iN (hL 7 (by decide))), (iN (hL 4 (by decide)))⟩
  · refine And.intro ?_ (And.intro ?_ (And.intro ?_ (And.intro ?_ (And.intro ?_ (And.intro ?_ (And.intro ?_ (And.intro ?_ trivial)))))))
    · intro L a W hL hd hcl hJ K hK
      rw [hJd] at hJ
      obtain ⟨a47, c47, a49, c49, g13, g14, hB⟩ := hJ
      have hn : a.tmps.size = 106 := hB.1.2.1
      have hgV : World.grows V W := World.grows.trans (grD grA) hB.2.1
      have e4 := hB.1.2.2 4 (by decide); have e4r := get_eval e4
      have ra := hgV.row_eq zhra.1; have rb := hgV.row_eq zhrb.1; rw [hra] at ra; rw [hrb] at rb; have za := row_sz' ra; have zb := row_sz' rb; replace hgV := World.grows.trans gV hgV
      have HF := Lib.hid (And.intro hL (And.intro hd (And.intro hcl (And.intro hn hB))))
      clear hL hd hcl hn hB
      go_simp
      obtain ⟨hL, hd, hcl, hn, hf, hG, f0, f1, f2, f3, f4, f5, f6, f7, d4_5⟩ := HF.out
      have hgw : W.grows W := World.grows.refl
      refine hK _ _ ?_
      rw [hJd]
      exact ⟨a47, c47, a49, c49, g13, g14, (hf.put (by decide)), (hG.trans hgw), (fun _ => (iS hn rfl)), (ic rfl rfl f1 fun q => q.keep (fun g hS hl => ⟨hgw.row_eq hl, trivial, (fun h => hS.2.1 (iU rfl h)), (fun h => hS.2.2 (iU rfl h))⟩)), (iq rfl rfl f2), (ic rfl rfl f3 fun q => q.keep (fun g hS hl => ⟨hgw.row_eq hl, trivial, (fun h => hS.2.1 (iU rfl h)), (fun h => hS.2.2 (iU rfl h))⟩)), (ia rfl rfl (iU rfl) f4 hgw), (ia rfl rfl (iU rfl) f5 hgw), (iw rfl f6), (iw rfl f7), (id2 rfl rfl d4_5)⟩
    · intro L a W hL hd hcl hJ K hK
      rw [hJd] at hJ
      obtain ⟨a47, c47, a49, c49, g13, g14, hB⟩ := hJ
      have hn : a.tmps.size = 106 := hB.1.2.1
      have hgV : World.grows V W := World.grows.trans (grD grA) hB.2.1
      have p0 := hB.2.2.1 (hd 0 (by kernel_rfl))
      have p0r := get_eval p0
      have ra := hgV.row_eq zhra.1; have rb := hgV.row_eq zhrb.1; rw [hra] at ra; rw [hrb] at rb; have za := row_sz' ra; have zb := row_sz' rb; replace hgV := World.grows.trans gV hgV
      have HSX := Lib.hid (show ∀ g, W.heap.size ≤ g → (fun g => True ∧ (L 4 = true → g ≠ g13) ∧ (L 5 = true → g ≠ g14)) g from fun g hg => ⟨trivial, (fun h => Nat.ne_of_gt (Nat.lt_of_lt_of_le (hB.2.2.2.2.2.2.1 h).2.2.1 hg)), (fun h => Nat.ne_of_gt (Nat.lt_of_lt_of_le (hB.2.2.2.2.2.2.2.1 h).2.2.1 hg))⟩)
      have HSO := Lib.hid (show ∀ g, g < (V).heap.size → (fun g => True ∧ (L 4 = true → g ≠ g13) ∧ (L 5 = true → g ≠ g14)) g from fun g hg => ⟨trivial, (fun h => Nat.ne_of_lt (Nat.lt_of_lt_of_le hg (hB.2.2.2.2.2.2.1 h).2.1)), (fun h => Nat.ne_of_lt (Nat.lt_of_lt_of_le hg (hB.2.2.2.2.2.2.2.1 h).2.1))⟩)
      have HF := Lib.hid (And.intro hL (And.intro hd (And.intro hcl (And.intro hn hB))))
      clear hL hd hcl hn hB
      go_simp
      (go_at_call 20; (with_reducible refine (K3.out W _ HSX.out hgV).mono ?_); rintro e w5 ⟨a7, c7, rfl, hg7, h77, h7b, h7s⟩)
      refine ⟨_, rfl, ?_⟩
      obtain ⟨hL, hd, hcl, hn, hf, hG, f0, f1, f2, f3, f4, f5, f6, f7, d4_5⟩ := HF.out
      have hgw : W.grows w5 := hg7
      refine hK _ _ ?_
      rw [hJd]
      exact ⟨a7, c7, a49, c49, g13, g14, (hf.put (by decide)), (hG.trans hgw), (iq rfl rfl f0), (fun _ => ⟨(iS hn rfl), (FormOk_of_parts h77 h7b h7s).keep (fun g hS _ => ⟨rfl, trivial, (fun h => hS.2.1 (iU rfl h)), (fun h => hS.2.2 (iU rfl h))⟩)⟩), (iq rfl rfl f2), (ic rfl rfl f3 fun q => q.keep (fun g hS hl => ⟨hgw.row_eq hl, trivial, (fun h => hS.2.1 (iU rfl h)), (fun h => hS.2.2 (iU rfl h))⟩)), (iv rfl rfl (fun h => (absurd ((hcl 6 1 (by decide) (by kernel_rfl) (iU rfl h)).symm.trans hL) (by decide))) f4 hgw), (ia rfl rfl (iU rfl) f5 hgw), (iw rfl f6), (iw rfl f7), (id2 rfl rfl d4_5)⟩
    · intro L a W hL hd hcl hJ K hK
      rw [hJd] at hJ
      obtain ⟨a47, c47, a49, c49, g13, g14, hB⟩ := hJ
      have hn : a.tmps.size = 106 := hB.1.2.1
      have hgV : World.grows V W := World.grows.trans (grD grA) hB.2.1
      have e5 := hB.1.2.2 5 (by decide); have e5r := get_eval e5
      have ra := hgV.row_eq zhra.1; have rb := hgV.row_eq zhrb.1; rw [hra] at ra; rw [hrb] at rb; have za := row_sz' ra; have zb := row_sz' rb; replace hgV := World.grows.trans gV hgV
      have HF := Lib.hid (And.intro hL (And.intro hd (And.intro hcl (And.intro hn hB))))
      clear hL hd hcl hn hB
      go_simp
      obtain ⟨hL, hd, hcl, hn, hf, hG, f0, f1, f2, f3, f4, f5, f6, f7, d4_5⟩ := HF.out
      have hgw : W.grows W := World.grows.refl
      refine hK _ _ ?_
      rw [hJd]
      exact ⟨a47, c47, a49, c49, g13, g14, (hf.put (by decide)), (hG.trans hgw), (iq rfl rfl f0), (ic rfl rfl f1 fun q => q.keep (fun g hS hl => ⟨hgw.row_eq hl, trivial, (fun h => hS.2.1 (iU rfl h)), (fun h => hS.2.2 (iU rfl h))⟩)), (fun _ => (iS hn rfl)), (ic rfl rfl f3 fun q => q.keep (fun g hS hl => ⟨hgw.row_eq hl, trivial, (fun h => hS.2.1 (iU rfl h)), (fun h => hS.2.2 (iU rfl h))⟩)), (ia rfl rfl (iU rfl) f4 hgw), (ia rfl rfl (iU rfl) f5 hgw), (iw rfl f6), (iw rfl f7), (id2 rfl rfl d4_5)⟩
    · intro L a W hL hd hcl hJ K hK
      rw [hJd] at hJ
      obtain ⟨a47, c47, a49, c49, g13, g14, hB⟩ := hJ
      have hn : a.tmps.size = 106 := hB.1.2.1
      have hgV : World.grows V W := World.grows.trans (grD grA) hB.2.1
      obtain ⟨p1, pq1⟩ := hB.2.2.2.1 (hd 1 (by kernel_rfl))
      have p2 := hB.2.2.2.2.1 (hd 2 (by kernel_rfl))
      have p2r := get_eval p2
      have ra := hgV.row_eq zhra.1; have rb := hgV.row_eq zhrb.1; rw [hra] at ra; rw [hrb] at rb; have za := row_sz' ra; have zb := row_sz' rb; replace hgV := World.grows.trans gV hgV
      have HSX := Lib.hid (show ∀ g, W.heap.size ≤ g → (fun g => True ∧ (L 4 = true → g ≠ g13) ∧ (L 5 = true → g ≠ g14)) g from fun g hg => ⟨trivial, (fun h => Nat.ne_of_gt (Nat.lt_of_lt_of_le (hB.2.2.2.2.2.2.1 h).2.2.1 hg)), (fun h => Nat.ne_of_gt (Nat.lt_of_lt_of_le (hB.2.2.2.2.2.2.2.1 h).2.2.1 hg))⟩)
      have HSO := Lib.hid (show ∀ g, g < (V).heap.size → (fun g => True ∧ (L 4 = true → g ≠ g13) ∧ (L 5 = true → g ≠ g14)) g from fun g hg => ⟨trivial, (fun h => Nat.ne_of_lt (Nat.lt_of_lt_of_le hg (hB.2.2.2.2.2.2.1 h).2.1)), (fun h => Nat.ne_of_lt (Nat.lt_of_lt_of_le hg (hB.2.2.2.2.2.2.2.1 h).2.1))⟩)
      have HF := Lib.hid (And.intro hL (And.intro hd (And.intro hcl (And.intro hn hB))))
      clear hL hd hcl hn hB
      go_simp
      (go_at_call 20; (with_reducible refine (K4.out W _ HSX.out hgV).mono ?_); rintro e w5 ⟨a7, c7, rfl, hg7, h77, h7b, h7s⟩)
      refine ⟨_, rfl, ?_⟩
      obtain ⟨hL, hd, hcl, hn, hf, hG, f0, f1, f2, f3, f4, f5, f6, f7, d4_5⟩ := HF.out
      have hgw : W.grows w5 := hg7
      refine hK _ _ ?_
      rw [hJd]
      exact ⟨a47, c47, a7, c7, g13, g14, (hf.put (by decide)), (hG.trans hgw), (iq rfl rfl f0), (ic rfl rfl f1 fun q => q.keep (fun g hS hl => ⟨hgw.row_eq hl, trivial, (fun h => hS.2.1 (iU rfl h)), (fun h => hS.2.2 (iU rfl h))⟩)), (iq rfl rfl f2), (fun _ => ⟨(iS hn rfl), (FormOk_of_parts h77 h7b h7s).keep (fun g hS _ => ⟨rfl, trivial, (fun h => hS.2.1 (iU rfl h)), (fun h => hS.2.2 (iU rfl h))⟩)⟩), (ia rfl rfl (iU rfl) f4 hgw), (iv rfl rfl (fun h => (absurd ((hcl 7 3 (by decide) (by kernel_rfl) (iU rfl h)).symm.trans hL) (by decide))) f5 hgw), (iw rfl f6), (iw rfl f7), (id2 rfl rfl d4_5)⟩
    · intro L a W hL hd hcl hJ K hK
      rw [hJd] at hJ
      obtain ⟨a47, c47, a49, c49, g13, g14, hB⟩ := hJ
      have hn : a.tmps.size = 106 := hB.1.2.1
      have hgV : World.grows V W := World.grows.trans (grD grA) hB.2.1
      have HF := Lib.hid (And.intro hL (And.intro hd (And.intro hcl (And.intro hn hB))))
      clear hL hd hcl hn hB
      go_simp
      obtain ⟨hL, hd, hcl, hn, hf, hG, f0, f1, f2, f3, f4, f5, f6, f7, d4_5⟩ := HF.out
      have hgA : ∀ o, W.grows (W.alloc o) := fun o => World.grows.alloc World.grows.refl o
      refine hK _ _ ?_
      rw [hJd]
      exact ⟨a47, c47, a49, c49, W.heap.size, g14, (hf.put (by decide)), (hG.trans (hgA _)), (iq rfl rfl f0), (ic rfl rfl f1 fun q => q.keep (fun g hS hl => ⟨(hgA _).row_eq hl, trivial, (fun _ => Nat.ne_of_lt hl), (fun h => hS.2.2 (iU rfl h))⟩)), (iq rfl rfl f2), (ic rfl rfl f3 fun q => q.keep (fun g hS hl => ⟨(hgA _).row_eq hl, trivial, (fun _ => Nat.ne_of_lt hl), (fun h => hS.2.2 (iU rfl h))⟩)), (fun _ => ⟨(iS hn rfl), hG.below.size, (by rw [World.size_alloc]; exact Nat.lt_succ_self _), _, (by rfl), (fun h => (absurd ((hcl 6 4 (by decide) (by kernel_rfl) (iU rfl h)).symm.trans hL) (by decide))), ((World.row_alloc ..).trans (if_pos rfl))⟩), (ia rfl rfl (iU rfl) f5 (hgA _)), (iw rfl f6), (iw rfl f7), (fun h h2 => Ne.symm (Nat.ne_of_lt (f5 (iU rfl h2)).2.2.1))⟩
    · intro L a W hL hd hcl hJ K hK
      rw [hJd] at hJ
      obtain ⟨a47, c47, a49, c49, g13, g14, hB⟩ := hJ
      have hn : a.tmps.size = 106 := hB.1.2.1
      have hgV : World.grows V W := World.grows.trans (grD grA) hB.2.1
      have HF := Lib.hid (And.intro hL (And.intro hd (And.intro hcl (And.intro hn hB))))
      clear hL hd hcl hn hB
      go_simp
      obtain ⟨hL, hd, hcl, hn, hf, hG, f0, f1, f2, f3, f4, f5, f6, f7, d4_5⟩ := HF.out
      have hgA : ∀ o, W.grows (W.alloc o) := fun o => World.grows.alloc World.grows.refl o
      refine hK _ _ ?_
      rw [hJd]
      exact ⟨a47, c47, a49, c49, g13, W.heap.size, (hf.put (by decide)), (hG.trans (hgA _)), (iq rfl rfl f0), (ic rfl rfl f1 fun q => q.keep (fun g hS hl => ⟨(hgA _).row_eq hl, trivial, (fun h => hS.2.1 (iU rfl h)), (fun _ => Nat.ne_of_lt hl)⟩)), (iq rfl rfl f2), (ic rfl rfl f3 fun q => q.keep (fun g hS hl => ⟨(hgA _).row_eq hl, trivial, (fun h => hS.2.1 (iU rfl h)), (fun _ => Nat.ne_of_lt hl)⟩)), (ia rfl rfl (iU rfl) f4 (hgA _)), (fun _ => ⟨(iS hn rfl), hG.below.size, (by rw [World.size_alloc]; exact Nat.lt_succ_self _), _, (by rfl), (fun h => (absurd ((hcl 7 5 (by decide) (by kernel_rfl) (iU rfl h)).symm.trans hL) (by decide))), ((World.row_alloc ..).trans (if_pos rfl))⟩), (iw rfl f6), (iw rfl f7), (fun h h2 => id (Nat.ne_of_lt (f4 (iU rfl h)).2.2.1))⟩
    · intro L a W hL hd hcl hJ K hK
      rw [hJd] at hJ
      obtain ⟨a47, c47, a49, c49, g13, g14, hB⟩ := hJ
      have hn : a.tmps.size = 106 := hB.1.2.1
      have hgV : World.grows V W := World.grows.trans (grD grA) hB.2.1
      have p0 := hB.2.2.1 (hd 0 (by kernel_rfl))
      obtain ⟨p1, pq1⟩ := hB.2.2.2.1 (hd 1 (by kernel_rfl))
      obtain ⟨p3, pq3⟩ := hB.2.2.2.2.2.1 (hd 3 (by kernel_rfl))
      obtain ⟨p4, pl4, ps4, pc4, pn4, pu4, pr4⟩ := hB.2.2.2.2.2.2.1 (hd 4 (by kernel_rfl)); have pz4 := row_sz' pr4; have po4 : rowOkW 15 (some (.cells pc4 30)) = true := beq_iff_eq.2 pn4
      obtain ⟨p5, pl5, ps5, pc5, pn5, pu5, pr5⟩ := hB.2.2.2.2.2.2.2.1 (hd 5 (by kernel_rfl)); have pz5 := row_sz' pr5; have po5 : rowOkW 15 (some (.cells pc5 30)) = true := beq_iff_eq.2 pn5
      have p4r := get_eval p4
      have p1r := get_eval p1
      have HF := Lib.hid (And.intro hL (And.intro hd (And.intro hcl (And.intro hn hB))))
      clear hL hd hcl hn hB
      go_simp
      obtain ⟨hL, hd, hcl, hn, hf, hG, f0, f1, f2, f3, f4, f5, f6, f7, d4_5⟩ := HF.out
      refine hK _ _ ?_
      rw [hJd]
      exact ⟨a47, c47, a49, c49, g13, g14, hf, (hG.setRow' (Nat.le_trans pl4 (Nat.le_refl _)) _), (iq0 rfl f0), (ic0 rfl f1 fun q => q.keep (fun g hS hl => ⟨by rw [World.row_setRow, if_neg (hS.2.1 (hd 4 (by kernel_rfl)))], trivial, (fun h => hS.2.1 (iU rfl h)), (fun h => hS.2.2 (iU rfl h))⟩)), (iq0 rfl f2), (ic0 rfl f3 fun q => q.keep (fun g hS hl => ⟨by rw [World.row_setRow, if_neg (hS.2.1 (hd 4 (by kernel_rfl)))], trivial, (fun h => hS.2.1 (iU rfl h)), (fun h => hS.2.2 (iU rfl h))⟩)), (fun _ => ⟨p4, pl4, (by rw [World.setRow_size']; exact ps4), _, (by first | rfl | (simp [go_sem]; done) | (simp [go_sem, *]; done)), (fun _ => rfl), (by rw [World.row_setRow, if_pos rfl, pr4]; first | done | rfl)⟩), (ia0 rfl rfl f5 (fun h => Ne.symm (d4_5 (hd 4 (by kernel_rfl)) (iU rfl h)))), (fun _ => upL_of (hd 4 (by kernel_rfl))), (iw rfl f7), (id2 rfl rfl d4_5)⟩
    · intro L a W hL hd hcl hJ K hK
      rw [hJd] at hJ
      obtain ⟨a47, c47, a49, c49, g13, g14, hB⟩ := hJ
      have hn : a.tmps.size = 106 := hB.1.2.1
      have hgV : World.grows V W := World.grows.trans (grD grA) hB.2.1
      have p0 := hB.2.2.1 (hd 0 (by kernel_rfl))
      obtain ⟨p1, pq1⟩ := hB.2.2.2.1 (hd 1 (by kernel_rfl))
      have p2 := hB.2.2.2.2.1 (hd 2 (by kernel_rfl))
      obtain ⟨p3, pq3⟩ := hB.2.2.2.2.2.1 (hd 3 (by kernel_rfl))
      obtain ⟨p4, pl4, ps4, pc4, pn4, pu4, pr4⟩ := hB.2.2.2.2.2.2.1 (hd 4 (by kernel_rfl)); have pz4 := row_sz' pr4; have po4 : rowOkW 15 (some (.cells pc4 30)) = true := beq_iff_eq.2 pn4
      obtain ⟨p5, pl5, ps5, pc5, pn5, pu5, pr5⟩ := hB.2.2.2.2.2.2.2.1 (hd 5 (by kernel_rfl)); have pz5 := row_sz' pr5; have po5 : rowOkW 15 (some (.cells pc5 30)) = true := beq_iff_eq.2 pn5
      have p5r := get_eval p5
      have p3r := get_eval p3
      have HF := Lib.hid (And.intro hL (And.intro hd (And.intro hcl (And.intro hn hB))))
      clear hL hd hcl hn hB
      go_simp
      obtain ⟨hL, hd, hcl, hn, hf, hG, f0, f1, f2, f3, f4, f5, f6, f7, d4_5⟩ := HF.out
      refine hK _ _ ?_
      rw [hJd]
      exact ⟨a47, c47, a49, c49, g13, g14, hf, (hG.setRow' (Nat.le_trans pl5 (Nat.le_refl _)) _), (iq0 rfl f0), (ic0 rfl f1 fun q => q.keep (fun g hS hl => ⟨by rw [World.row_setRow, if_neg (hS.2.2 (hd 5 (by kernel_rfl)))], trivial, (fun h => hS.2.1 (iU rfl h)), (fun h => hS.2.2 (iU rfl h))⟩)), (iq0 rfl f2), (ic0 rfl f3 fun q => q.keep (fun g hS hl => ⟨by rw [World.row_setRow, if_neg (hS.2.2 (hd 5 (by kernel_rfl)))], trivial, (fun h => hS.2.1 (iU rfl h)), (fun h => hS.2.2 (iU rfl h))⟩)), (ia0 rfl rfl f4 (fun h => d4_5 (iU rfl h) (hd 5 (by kernel_rfl)))), (fun _ => ⟨p5, pl5, (by rw [World.setRow_size']; exact ps5), _, (by first | rfl | (simp [go_sem]; done) | (simp [go_sem, *]; done)), (fun _ => rfl), (by rw [World.row_setRow, if_pos rfl, pr5]; first | done | rfl)⟩), (iw rfl f6), (fun _ => upL_of (hd 5 (by kernel_rfl))), (id2 rfl rfl d4_5)⟩
  · intro a W5 hJ
    rw [hJd] at hJ
    obtain ⟨a47, c47, a49, c49, g13, g14, hf, hG, f0, f1, f2, f3, f4, f5, f6, f7, d4_5⟩ := hJ
    clear hJd
    replace f0 := f0 rfl
    obtain ⟨f1, pq1⟩ := f1 rfl
    replace f2 := f2 rfl
    obtain ⟨f3, pq3⟩ := f3 rfl
    obtain ⟨f4, pl4, ps4, pc4, pn4, pu4, pr4⟩ := f4 rfl; obtain rfl := pu4 rfl
    obtain ⟨f5, pl5, ps5, pc5, pn5, pu5, pr5⟩ := f5 rfl; obtain rfl := pu5 rfl
    clear f6
    clear f7
    replace d4_5 := d4_5 rfl rfl
    have ha := hf.puts [46, 47, 48, 49, 13, 14] _ (by intro d hd; show d < 106; revert d; decide)
    simp only [List.map_cons, List.map_nil, f0, f1, f2, f3, f4, f5] at ha
    clear f0 f1 f2 f3 f4 f5 hf
    subst ha
    have hgV : World.grows V W5 := World.grows.trans (by first | (exact World.grows.drew World.grows.refl; done) | (show World.grows _ _; repeat (with_reducible first | assumption | exact grA | apply grB | apply grC | apply grD | refine grE ?_ (by omega) _))) hG
    simp only [putL]
    go_simp
    have hkF := Lib.hid (pq1.keep (S' := fun _ => True) (W := W5) fun _ _ _ => ⟨rfl, trivial⟩)
    have hkG := Lib.hid (pq3.keep (S' := fun _ => True) (W := W5) fun _ _ _ => ⟨rfl, trivial⟩)
    have hk2 := (hgV.row_eq zhrk.1).trans hrk; have hc2 := (hgV.row_eq zhrc.1).trans hrc
    have hwW : w.grows W5 := gV.trans hgV
    have l4 := ps4; have l5 := ps5
    clear pq1 pq3 hgV hG d4_5 pn4 pn5 pl4 pl5 ps4 ps5 hra hrb hrk hrc zhra zhrb zhrk zhrc gV
    have zk := row_sz' hk2; have zc := row_sz' hc2; have z13 := row_sz' pr4; have z14 := row_sz' pr5
    go_upto_region 6 with fail
    obtain ⟨J, hJd⟩ : ∃ J : Act → World → (Nat → Bool) → Act → World → Prop, J = (fun a0 w0 L a' W => ∃ (g15 : Nat) (g16 : Nat), Fr a0 [50, 51, 52, 53, 54, 55, 15, 16] a' ∧ w0.grows W ∧ (L 0 = true → a'.tmps.getD 50 undef = .agg (formC F.us (.slice a47 F.ps.length c47)).toArray) ∧ (L 1 = true → a'.tmps.getD 51 undef = .agg #[.int .i64 c1, .int .i64 c2, .int .i64 c3, .int .i64 c4, .int .i64 c5, .int .i64 c6, .int .i64 c7, .int .i64 c8, .int .i64 c9, .int .i64 c10, .int .i64 c11, .int .i64 c12]) ∧ (L 2 = true → a'.tmps.getD 52 undef = .agg #[.int .i64 P1, .int .i64 P2]) ∧ (L 3 = true → a'.tmps.getD 53 undef = .agg (formC G.us (.slice a49 G.ps.length c49)).toArray) ∧ (L 4 = true → a'.tmps.getD 54 undef = .agg #[.int .i64 c1, .int .i64 c2, .int .i64 c3, .int .i64 c4, .int .i64 c5, .int .i64 c6, .int .i64 c7, .int .i64 c8, .int .i64 c9, .int .i64 c10, .int .i64 c11, .int .i64 c12]) ∧ (L 5 = true → a'.tmps.getD 55 undef = .agg #[.int .i64 Q1, .int .i64 Q2]) ∧ (L 6 = true → a'.tmps.getD 15 undef = .pointer (some ⟨g15, 0, none⟩) ∧ w0.heap.size ≤ g15 ∧ g15 < W.heap.size ∧ ∃ cs : Array Value, cs.size = 2 ∧ (L 8 = true → cs = #[.int .i64 P1, .int .i64 P2]) ∧ W.row g15 = some (.cells cs 23)) ∧ (L 7 = true → a'.tmps.getD 16 undef = .pointer (some ⟨g16, 0, none⟩) ∧ w0.heap.size ≤ g16 ∧ g16 < W.heap.size ∧ ∃ cs : Array Value, cs.size = 2 ∧ (L 9 = true → cs = #[.int .i64 Q1, .int .i64 Q2]) ∧ W.row g16 = some (.cells cs 23)) ∧ (L 8 = true → L 6 = true) ∧ (L 9 = true → L 7 = true) ∧ (L 6 = true → L 7 = true → g15 ≠ g16)) := ⟨_, rfl⟩
    refine wp_region_inv_lit (by kernel_rfl) (by kernel_rfl) J ?_ ?_ ?_
    · intro L hL
      rw [hJd]
      exact ⟨0, 0, Fr.refl, World.grows.refl, (iN (hL 0 (by decide))), (iN (hL 1 (by decide))), (iN (hL 2 (by decide))), (iN (hL 3 (by decide))), (iN (hL 4 (by decide))), (iN (hL 5 (by decide))), (iN (hL 6 (by decide))), (iN (hL 7 (by decide))), (iN (hL 8 (by decide))), (iN (hL 9 (by decide))), (iN (hL 6 (by decide)))⟩
    · refine And.intro ?_ (And.intro ?_ (And.intro ?_ (And.intro ?_ (And.intro ?_ (And.intro ?_ (And.intro ?_ (And.intro ?_ (And.intro ?_ (And.intro ?_ trivial)))))))))
      · intro L a W hL hd hcl hJ K hK
        rw [hJd] at hJ
        obtain ⟨g15, g16, hB⟩ := hJ
        have hn : a.tmps.size = 106 := hB.1.2.1
        have hgV : World.grows W5 W := World.grows.trans (grD grA) hB.2.1
        have e13 := hB.1.2.2 13 (by decide); have e13r := get_eval e13
        have r13 := hgV.row_eq z13.1; have r14 := hgV.row_eq z14.1; have rc := hgV.row_eq zc.1; rw [pr4] at r13; rw [pr5] at r14; rw [hc2] at rc; have y13 := row_sz' r13; have y14 := row_sz' r14; have yc := row_sz' rc
        have HF := Lib.hid (And.intro hL (And.intro hd (And.intro hcl (And.intro hn hB))))
        clear hL hd hcl hn hB
        go_simp
        obtain ⟨hL, hd, hcl, hn, hf, hG, f0, f1, f2, f3, f4, f5, f6, f7, f8, f9, d6_7⟩ := HF.out
        have hgw : W.grows W := World.grows.refl
        refine hK _ _ ?_
        rw [hJd]
        exact ⟨g15, g16, (hf.put (by decide)), (hG.trans hgw), (fun _ => (iS hn rfl)), (iq rfl rfl f1), (iq rfl rfl f2), (iq rfl rfl f3), (iq rfl rfl f4), (iq rfl rfl f5), (ia rfl rfl (iU rfl) f6 hgw), (ia rfl rfl (iU rfl) f7 hgw), (iw rfl f8), (iw rfl f9), (id2 rfl rfl d6_7)⟩
      · intro L a W hL hd hcl hJ K hK
        rw [hJd] at hJ
        obtain ⟨g15, g16, hB⟩ := hJ
        have hn : a.tmps.size = 106 := hB.1.2.1
        have hgV : World.grows W5 W := World.grows.trans (grD grA) hB.2.1
        have e7 := hB.1.2.2 7 (by decide); have e7r := get_eval e7
        have r13 := hgV.row_eq z13.1; have r14 := hgV.row_eq z14.1; have rc := hgV.row_eq zc.1; rw [pr4] at r13; rw [pr5] at r14; rw [hc2] at rc; have y13 := row_sz' r13; have y14 := row_sz' r14; have yc := row_sz' rc
        have HF := Lib.hid (And.intro hL (And.intro hd (And.intro hcl (And.intro hn hB))))
        clear hL hd hcl hn hB
        go_simp
        obtain ⟨hL, hd, hcl, hn, hf, hG, f0, f1, f2, f3, f4, f5, f6, f7, f8, f9, d6_7⟩ := HF.out
        have hgw : W.grows W := World.grows.refl
        refine hK _ _ ?_
        rw [hJd]
        exact ⟨g15, g16, (hf.put (by decide)), (hG.trans hgw), (iq rfl rfl f0), (fun _ => (iS hn rfl)), (iq rfl rfl f2), (iq rfl rfl f3), (iq rfl rfl f4), (iq rfl rfl f5), (ia rfl rfl (iU rfl) f6 hgw), (ia rfl rfl (iU rfl) f7 hgw), (iw rfl f8), (iw rfl f9), (id2 rfl rfl d6_7)⟩
      · intro L a W hL hd hcl hJ K hK
        rw [hJd] at hJ
        obtain ⟨g15, g16, hB⟩ := hJ
        have hn : a.tmps.size = 106 := hB.1.2.1
        have hgV : World.grows W5 W := World.grows.trans (grD grA) hB.2.1
        have p0 := hB.2.2.1 (hd 0 (by kernel_rfl))
        have p1 := hB.2.2.2.1 (hd 1 (by kernel_rfl))
        have p0r := get_eval p0
        have p1r := get_eval p1
        have r13 := hgV.row_eq z13.1; have r14 := hgV.row_eq z14.1; have rc := hgV.row_eq zc.1; rw [pr4] at r13; rw [pr5] at r14; rw [hc2] at rc; have y13 := row_sz' r13; have y14 := row_sz' r14; have yc := row_sz' rc
        have HF := Lib.hid (And.intro hL (And.intro hd (And.intro hcl (And.intro hn hB))))
        clear hL hd hcl hn hB
        go_simp
        (go_at_call 40; (with_reducible refine (K5.out W _ (hkF.out.grows hgV)).mono ?_); rintro e w5 ⟨rfl, x5, rfl⟩)
        refine ⟨_, rfl, ?_⟩
        obtain ⟨hL, hd, hcl, hn, hf, hG, f0, f1, f2, f3, f4, f5, f6, f7, f8, f9, d6_7⟩ := HF.out
        have hgw : W.grows (W.plus x5) := (World.grows.plus World.grows.refl _)
        refine hK _ _ ?_
        rw [hJd]
        exact ⟨g15, g16, (hf.put (by decide)), (hG.trans hgw), (iq rfl rfl f0), (iq rfl rfl f1), (fun _ => (iS hn rfl)), (iq rfl rfl f3), (iq rfl rfl f4), (iq rfl rfl f5), (ia rfl rfl (iU rfl) f6 hgw), (ia rfl rfl (iU rfl) f7 hgw), (iw rfl f8), (iw rfl f9), (id2 rfl rfl d6_7)⟩
      · intro L a W hL hd hcl hJ K hK
        rw [hJd] at hJ
        obtain ⟨g15, g16, hB⟩ := hJ
        have hn : a.tmps.size = 106 := hB.1.2.1
        have hgV : World.grows W5 W := World.grows.trans (grD grA) hB.2.1
        have e14 := hB.1.2.2 14 (by decide); have e14r := get_eval e14
        have r13 := hgV.row_eq z13.1; have r14 := hgV.row_eq z14.1; have rc := hgV.row_eq zc.1; rw [pr4] at r13; rw [pr5] at r14; rw [hc2] at rc; have y13 := row_sz' r13; have y14 := row_sz' r14; have yc := row_sz' rc
        have HF := Lib.hid (And.intro hL (And.intro hd (And.intro hcl (And.intro hn hB))))
        clear hL hd hcl hn hB
        go_simp
        obtain ⟨hL, hd, hcl, hn, hf, hG, f0, f1, f2, f3, f4, f5, f6, f7, f8, f9, d6_7⟩ := HF.out
        have hgw : W.grows W := World.grows.refl
        refine hK _ _ ?_
        rw [hJd]
        exact ⟨g15, g16, (hf.put (by decide)), (hG.trans hgw), (iq rfl rfl f0), (iq rfl rfl f1), (iq rfl rfl f2), (fun _ => (iS hn rfl)), (iq rfl rfl f4), (iq rfl rfl f5), (ia rfl rfl (iU rfl) f6 hgw), (ia rfl rfl (iU rfl) f7 hgw), (iw rfl f8), (iw rfl f9), (id2 rfl rfl d6_7)⟩
      · intro L a W hL hd hcl hJ K hK
        rw [hJd] at hJ
        obtain ⟨g15, g16, hB⟩ := hJ
        have hn : a.tmps.size = 106 := hB.1.2.1
        have hgV : World.grows W5 W := World.grows.trans (grD grA) hB.2.1
        have e7 := hB.1.2.2 7 (by decide); have e7r := get_eval e7
        have r13 := hgV.row_eq z13.1; have r14 := hgV.row_eq z14.1; have rc := hgV.row_eq zc.1; rw [pr4] at r13; rw [pr5] at r14; rw [hc2] at rc; have y13 := row_sz' r13; have y14 := row_sz' r14; have yc := row_sz' rc
        have HF := Lib.hid (And.intro hL (And.intro hd (And.intro hcl (And.intro hn hB))))
        clear hL hd hcl hn hB
        go_simp
        obtain ⟨hL, hd, hcl, hn, hf, hG, f0, f1, f2, f3, f4, f5, f6, f7, f8, f9, d6_7⟩ := HF.out
        have hgw : W.grows W := World.grows.refl
        refine hK _ _ ?_
        rw [hJd]
        exact ⟨g15, g16, (hf.put (by decide)), (hG.trans hgw), (iq rfl rfl f0), (iq rfl rfl f1), (iq rfl rfl f2), (iq rfl rfl f3), (fun _ => (iS hn rfl)), (iq rfl rfl f5), (ia rfl rfl (iU rfl) f6 hgw), (ia rfl rfl (iU rfl) f7 hgw), (iw rfl f8), (iw rfl f9), (id2 rfl rfl d6_7)⟩
      · intro L a W hL hd hcl hJ K hK
        rw [hJd] at hJ
        obtain ⟨g15, g16, hB⟩ := hJ
        have hn : a.tmps.size = 106 := hB.1.2.1
        have hgV : World.grows W5 W := World.grows.trans (grD grA) hB.2.1
        have p2 := hB.2.2.2.2.1 (hd 2 (by kernel_rfl))
        have p3 := hB.2.2.2.2.2.1 (hd 3 (by kernel_rfl))
        have p4 := hB.2.2.2.2.2.2.1 (hd 4 (by kernel_rfl))
        have p3r := get_eval p3
        have p4r := get_eval p4
        have r13 := hgV.row_eq z13.1; have r14 := hgV.row_eq z14.1; have rc := hgV.row_eq zc.1; rw [pr4] at r13; rw [pr5] at r14; rw [hc2] at rc; have y13 := row_sz' r13; have y14 := row_sz' r14; have yc := row_sz' rc
        have HF := Lib.hid (And.intro hL (And.intro hd (And.intro hcl (And.intro hn hB))))
        clear hL hd hcl hn hB
        go_simp
        (go_at_call 40; (with_reducible refine (K6.out W _ (hkG.out.grows hgV)).mono ?_); rintro e w5 ⟨rfl, x5, rfl⟩)
        refine ⟨_, rfl, ?_⟩
        obtain ⟨hL, hd, hcl, hn, hf, hG, f0, f1, f2, f3, f4, f5, f6, f7, f8, f9, d6_7⟩ := HF.out
        have hgw : W.grows (W.plus x5) := (World.grows.plus World.grows.refl _)
        refine hK _ _ ?_
        rw [hJd]
        exact ⟨g15, g16, (hf.put (by decide)), (hG.trans hgw), (iq rfl rfl f0), (iq rfl rfl f1), (iq rfl rfl f2), (iq rfl rfl f3), (iq rfl rfl f4), (fun _ => (iS hn rfl)), (ia rfl rfl (iU rfl) f6 hgw), (ia rfl rfl (iU rfl) f7 hgw), (iw rfl f8), (iw rfl f9), (id2 rfl rfl d6_7)⟩
      · intro L a W hL hd hcl hJ K hK
        rw [hJd] at hJ
        obtain ⟨g15, g16, hB⟩ := hJ
        have hn : a.tmps.size = 106 := hB.1.2.1
        have hgV : World.grows W5 W := World.grows.trans (grD grA) hB.2.1
        have HF := Lib.hid (And.intro hL (And.intro hd (And.intro hcl (And.intro hn hB))))
        clear hL hd hcl hn hB
        go_simp
        obtain ⟨hL, hd, hcl, hn, hf, hG, f0, f1, f2, f3, f4, f5, f6, f7, f8, f9, d6_7⟩ := HF.out
        have hgA : ∀ o, W.grows (W.alloc o) := fun o => World.grows.alloc World.grows.refl o
        refine hK _ _ ?_
        rw [hJd]
        exact ⟨W.heap.size, g16, (hf.put (by decide)), (hG.trans (hgA _)), (iq rfl rfl f0), (iq rfl rfl f1), (iq rfl rfl f2), (iq rfl rfl f3), (iq rfl rfl f4), (iq rfl rfl f5), (fun _ => ⟨(iS hn rfl), hG.below.size, (by rw [World.size_alloc]; exact Nat.lt_succ_self _), _, (by rfl), (fun h => (absurd ((hcl 8 6 (by decide) (by kernel_rfl) (iU rfl h)).symm.trans hL) (by decide))), ((World.row_alloc ..).trans (if_pos rfl))⟩), (ia rfl rfl (iU rfl) f7 (hgA _)), (iw rfl f8), (iw rfl f9), (fun h h2 => Ne.symm (Nat.ne_of_lt (f7 (iU rfl h2)).2.2.1))⟩
      · intro L a W hL hd hcl hJ K hK
        rw [hJd] at hJ
        obtain ⟨g15, g16, hB⟩ := hJ
        have hn : a.tmps.size = 106 := hB.1.2.1
        have hgV : World.grows W5 W := World.grows.trans (grD grA) hB.2.1
        have HF := Lib.hid (And.intro hL (And.intro hd (And.intro hcl (And.intro hn hB))))
        clear hL hd hcl hn hB
        go_simp
        obtain ⟨hL, hd, hcl, hn, hf, hG, f0, f1, f2, f3, f4, f5, f6, f7, f8, f9, d6_7⟩ := HF.out
        have hgA : ∀ o, W.grows (W.alloc o) := fun o => World.grows.alloc World.grows.refl o
        refine hK _ _ ?_
        rw [hJd]
        exact ⟨g15, W.heap.size, (hf.put (by decide)), (hG.trans (hgA _)), (iq rfl rfl f0), (iq rfl rfl f1), (iq rfl rfl f2), (iq rfl rfl f3), (iq rfl rfl f4), (iq rfl rfl f5), (ia rfl rfl (iU rfl) f6 (hgA _)), (fun _ => ⟨(iS hn rfl), hG.below.size, (by rw [World.size_alloc]; exact Nat.lt_succ_self _), _, (by rfl), (fun h => (absurd ((hcl 9 7 (by decide) (by kernel_rfl) (iU rfl h)).symm.trans hL) (by decide))), ((World.row_alloc ..).trans (if_pos rfl))⟩), (iw rfl f8), (iw rfl f9), (fun h h2 => id (Nat.ne_of_lt (f6 (iU rfl h)).2.2.1))⟩
      · intro L a W hL hd hcl hJ K hK
        rw [hJd] at hJ
        obtain ⟨g15, g16, hB⟩ := hJ
        have hn : a.tmps.size = 106 := hB.1.2.1
        have hgV : World.grows W5 W := World.grows.trans (grD grA) hB.2.1
        have p0 := hB.2.2.1 (hd 0 (by kernel_rfl))
        have p1 := hB.2.2.2.1 (hd 1 (by kernel_rfl))
        have p2 := hB.2.2.2.2.1 (hd 2 (by kernel_rfl))
        have p5 := hB.2.2.2.2.2.2.2.1 (hd 5 (by kernel_rfl))
        obtain ⟨p6, pl6, ps6, pc6, pn6, pu6, pr6⟩ := hB.2.2.2.2.2.2.2.2.1 (hd 6 (by kernel_rfl)); have pz6 := row_sz' pr6; have po6 : rowOkW 2 (some (.cells pc6 23)) = true := beq_iff_eq.2 pn6
        obtain ⟨p7, pl7, ps7, pc7, pn7, pu7, pr7⟩ := hB.2.2.2.2.2.2.2.2.2.1 (hd 7 (by kernel_rfl)); have pz7 := row_sz' pr7; have po7 : rowOkW 2 (some (.cells pc7 23)) = true := beq_iff_eq.2 pn7
        have p6r := get_eval p6
        have p2r := get_eval p2
        have HF := Lib.hid (And.intro hL (And.intro hd (And.intro hcl (And.intro hn hB))))
        clear hL hd hcl hn hB
        go_simp
        obtain ⟨hL, hd, hcl, hn, hf, hG, f0, f1, f2, f3, f4, f5, f6, f7, f8, f9, d6_7⟩ := HF.out
        refine hK _ _ ?_
        rw [hJd]
        exact ⟨g15, g16, hf, (hG.setRow' (Nat.le_trans pl6 (Nat.le_refl _)) _), (iq0 rfl f0), (iq0 rfl f1), (iq0 rfl f2), (iq0 rfl f3), (iq0 rfl f4), (iq0 rfl f5), (fun _ => ⟨p6, pl6, (by rw [World.setRow_size']; exact ps6), _, (by first | rfl | (simp [go_sem]; done) | (simp [go_sem, *]; done)), (fun _ => rfl), (by rw [World.row_setRow, if_pos rfl, pr6]; first | done | rfl)⟩), (ia0 rfl rfl f7 (fun h => Ne.symm (d6_7 (hd 6 (by kernel_rfl)) (iU rfl h)))), (fun _ => upL_of (hd 6 (by kernel_rfl))), (iw rfl f9), (id2 rfl rfl d6_7)⟩
      · intro L a W hL hd hcl hJ K hK
        rw [hJd] at hJ
        obtain ⟨g15, g16, hB⟩ := hJ
        have hn : a.tmps.size = 106 := hB.1.2.1
        have hgV : World.grows W5 W := World.grows.trans (grD grA) hB.2.1
        have p0 := hB.2.2.1 (hd 0 (by kernel_rfl))
        have p1 := hB.2.2.2.1 (hd 1 (by kernel_rfl))
        have p2 := hB.2.2.2.2.1 (hd 2 (by kernel_rfl))
        have p3 := hB.2.2.2.2.2.1 (hd 3 (by kernel_rfl))
        have p4 := hB.2.2.2.2.2.2.1 (hd 4 (by kernel_rfl))
        have p5 := hB.2.2.2.2.2.2.2.1 (hd 5 (by kernel_rfl))
        obtain ⟨p6, pl6, ps6, pc6, pn6, pu6, pr6⟩ := hB.2.2.2.2.2.2.2.2.1 (hd 6 (by kernel_rfl)); have pz6 := row_sz' pr6; have po6 : rowOkW 2 (some (.cells pc6 23)) = true := beq_iff_eq.2 pn6
        obtain ⟨p7, pl7, ps7, pc7, pn7, pu7, pr7⟩ := hB.2.2.2.2.2.2.2.2.2.1 (hd 7 (by kernel_rfl)); have pz7 := row_sz' pr7; have po7 : rowOkW 2 (some (.cells pc7 23)) = true := beq_iff_eq.2 pn7
        have p7r := get_eval p7
        have p5r := get_eval p5
        have HF := Lib.hid (And.intro hL (And.intro hd (And.intro hcl (And.intro hn hB))))
        clear hL hd hcl hn hB
        go_simp
        obtain ⟨hL, hd, hcl, hn, hf, hG, f0, f1, f2, f3, f4, f5, f6, f7, f8, f9, d6_7⟩ := HF.out
        refine hK _ _ ?_
        rw [hJd]
        exact ⟨g15, g16, hf, (hG.setRow' (Nat.le_trans pl7 (Nat.le_refl _)) _), (iq0 rfl f0), (iq0 rfl f1), (iq0 rfl f2), (iq0 rfl f3), (iq0 rfl f4), (iq0 rfl f5), (ia0 rfl rfl f6 (fun h => d6_7 (iU rfl h) (hd 7 (by kernel_rfl)))), (fun _ => ⟨p7, pl7, (by rw [World.setRow_size']; exact ps7), _, (by first | rfl | (simp [go_sem]; done) | (simp [go_sem, *]; done)), (fun _ => rfl), (by rw [World.row_setRow, if_pos rfl, pr7]; first | done | rfl)⟩), (iw rfl f8), (fun _ => upL_of (hd 7 (by kernel_rfl))), (id2 rfl rfl d6_7)⟩
    · intro a W6 hJ
      rw [hJd] at hJ
      obtain ⟨g15, g16, hf, hG, f0, f1, f2, f3, f4, f5, f6, f7, f8, f9, d6_7⟩ := hJ
      clear hJd
      replace f0 := f0 rfl
      replace f1 := f1 rfl
      replace f2 := f2 rfl
      replace f3 := f3 rfl
      replace f4 := f4 rfl
      replace f5 := f5 rfl
      obtain ⟨f6, pl6, ps6, pc6, pn6, pu6, pr6⟩ := f6 rfl; obtain rfl := pu6 rfl
      obtain ⟨f7, pl7, ps7, pc7, pn7, pu7, pr7⟩ := f7 rfl; obtain rfl := pu7 rfl
      clear f8
      clear f9
      replace d6_7 := d6_7 rfl rfl
      have ha := hf.puts [50, 51, 52, 53, 54, 55, 15, 16] _ (by intro d hd; show d < 106; revert d; decide)
      simp only [List.map_cons, List.map_nil, f0, f1, f2, f3, f4, f5, f6, f7] at ha
      clear f0 f1 f2 f3 f4 f5 f6 f7 hf
      subst ha
      have hgV : World.grows W5 W6 := World.grows.trans (by first | (exact World.grows.drew World.grows.refl; done) | (show World.grows _ _; repeat (with_reducible first | assumption | exact grA | apply grB | apply grC | apply grD | refine grE ?_ (by omega) _))) hG
      simp only [putL]
      go_simp
      have h5 : W5.grows W6 := hgV
      have h5V : W5.heap.size ≤ W6.heap.size := hgV.below.size
      have m13 := (hgV.row_eq z13.1).trans pr4; have m14 := (hgV.row_eq z14.1).trans pr5; have mc := (hgV.row_eq zc.1).trans hc2; have mk := (hgV.row_eq zk.1).trans hk2
      have m15 := pr6; have m16 := pr7
      clear pr4 pr5 hc2 hk2 z13 z14 zc zk pr6 pr7 pn6 pn7 pl6 pl7 ps6 ps7 d6_7 hG hgV l4 l5
      have z13 := row_sz' m13; have z14 := row_sz' m14; have zc := row_sz' mc; have zk := row_sz' mk; have z15 := row_sz' m15; have z16 := row_sz' m16
      go_upto_region 7 with fail
      obtain ⟨J, hJd⟩ : ∃ J : Act → World → (Nat → Bool) → Act → World → Prop, J = (fun a0 w0 L a' W => ∃ (g58 : Nat) (a59 : Option Addr) (c59 : Nat) (g64 : Nat) (g17 : Nat) (g18 : Nat), Fr a0 [56, 57, 58, 59, 60, 61, 62, 63, 64, 65, 17, 18] a' ∧ w0.grows W ∧ (L 0 = true → a'.tmps.getD 56 undef = .agg (formC F.us (.slice a47 F.ps.length c47)).toArray) ∧ (L 1 = true → a'.tmps.getD 57 undef = .agg (formC G.us (.slice a49 G.ps.length c49)).toArray) ∧ (L 2 = true → a'.tmps.getD 58 undef = .slice (some ⟨g58, 0, none⟩) 2 2 ∧ w0.heap.size ≤ g58 ∧ g58 < W.heap.size ∧ W.row g58 = some (.cells ((formC F.us (.slice a47 F.ps.length c47)) ++ (formC G.us (.slice a49 G.ps.length c49))).toArray 30)) ∧ (L 3 = true → a'.tmps.getD 59 undef = .agg (formC H.us (.slice a59 H.ps.length c59)).toArray ∧ FormOk W (fun g => True ∧ (L 10 = true → g ≠ g17) ∧ (L 11 = true → g ≠ g18)) H (formC H.us (.slice a59 H.ps.length c59))) ∧ (L 4 = true → a'.tmps.getD 60 undef = .agg #[.int .i64 c1, .int .i64 c2, .int .i64 c3, .int .i64 c4, .int .i64 c5, .int .i64 c6, .int .i64 c7, .int .i64 c8, .int .i64 c9, .int .i64 c10, .int .i64 c11, .int .i64 c12]) ∧ (L 5 = true → a'.tmps.getD 61 undef = .agg #[.int .i64 X1, .int .i64 X2]) ∧ (L 6 = true → a'.tmps.getD 62 undef = .agg #[.int .i64 P1, .int .i64 P2]) ∧ (L 7 = true → a'.tmps.getD 63 undef = .agg #[.int .i64 Q1, .int .i64 Q2]) ∧ (L 8 = true → a'.tmps.getD 64 undef = .slice (some ⟨g64, 0, none⟩) 2 2 ∧ w0.heap.size ≤ g64 ∧ g64 < W.heap.size ∧ W.row g64 = some (.cells #[.int .i64 P1, .int .i64 P2, .int .i64 Q1, .int .i64 Q2] 23)) ∧ (L 9 = true → a'.tmps.getD 65 undef = .agg #[.int .i64 Y1, .int .i64 Y2]) ∧ (L 10 = true → a'.tmps.getD 17 undef = .pointer (some ⟨g17, 0, none⟩) ∧ w0.heap.size ≤ g17 ∧ g17 < W.heap.size ∧ ∃ cs : Array Value, cs.size = 2 ∧ (L 12 = true → cs = #[.int .i64 X1, .int .i64 X2]) ∧ W.row g17 = some (.cells cs 23)) ∧ (L 11 = true → a'.tmps.getD 18 undef = .pointer (some ⟨g18, 0, none⟩) ∧ w0.heap.size ≤ g18 ∧ g18 < W.heap.size ∧ ∃ cs : Array Value, cs.size = 2 ∧ (L 13 = true → cs = #[.int .i64 Y1, .int .i64 Y2]) ∧ W.row g18 = some (.cells cs 23)) ∧ (L 12 = true → L 10 = true) ∧ (L 13 = true → L 11 = true) ∧ (L 2 = true → L 8 = true → g58 ≠ g64) ∧ (L 2 = true → L 10 = true → g58 ≠ g17) ∧ (L 2 = true → L 11 = true → g58 ≠ g18) ∧ (L 8 = true → L 10 = true → g64 ≠ g17) ∧ (L 8 = true → L 11 = true → g64 ≠ g18) ∧ (L 10 = true → L 11 = true → g17 ≠ g18)) := ⟨_, rfl⟩
      refine wp_region_inv_lit (by kernel_rfl) (by kernel_rfl) J ?_ ?_ ?_
      · intro L hL
        rw [hJd]
        exact ⟨0, default, default, 0, 0, 0, Fr.refl, World.grows.refl, (iN (hL 0 (by decide))), (iN (hL 1 (by decide))), (iN (hL 2 (by decide))), (iN (hL 3 (by decide))), (iN (hL 4 (by decide))), (iN (hL 5 (by decide))), (iN (hL 6 (by decide))), (iN (hL 7 (by decide))), (iN (hL 8 (by decide))), (iN (hL 9 (by decide))), (iN (hL 10 (by decide))), (iN (hL 11 (by decide))), (iN (hL 12 (by decide))), (iN (hL 13 (by decide))), (iN (hL 2 (by decide))), (iN (hL 2 (by decide))), (iN (hL 2 (by decide))), (iN (hL 8 (by decide))), (iN (hL 8 (by decide))), (iN (hL 10 (by decide)))⟩
      · refine And.intro ?_ (And.intro ?_ (And.intro ?_ (And.intro ?_ (And.intro ?_ (And.intro ?_ (And.intro ?_ (And.intro ?_ (And.intro ?_ (And.intro ?_ (And.intro ?_ (And.intro ?_ (And.intro ?_ (And.intro ?_ trivial)))))))))))))
        · intro L a W hL hd hcl hJ K hK
          rw [hJd] at hJ
          obtain ⟨g58, a59, c59, g64, g17, g18, hB⟩ := hJ
          have hn : a.tmps.size = 106 := hB.1.2.1
          have hgV : World.grows W6 W := World.grows.trans (grD grA) hB.2.1
          have e13 := hB.1.2.2 13 (by decide); have e13r := get_eval e13
          have hg5 := h5.trans hgV; have r13 := hgV.row_eq z13.1; have r14 := hgV.row_eq z14.1; have rc := hgV.row_eq zc.1; have rk := hgV.row_eq zk.1; have r15 := hgV.row_eq z15.1; have r16 := hgV.row_eq z16.1; rw [m13] at r13; rw [m14] at r14; rw [mc] at rc; rw [mk] at rk; rw [m15] at r15; rw [m16] at r16; have y13 := row_sz' r13; have y14 := row_sz' r14; have yc := row_sz' rc; have yk := row_sz' rk; have y15 := row_sz' r15; have y16 := row_sz' r16
          have HF := Lib.hid (And.intro hL (And.intro hd (And.intro hcl (And.intro hn hB))))
          clear hL hd hcl hn hB
          go_simp
          obtain ⟨hL, hd, hcl, hn, hf, hG, f0, f1, f2, f3, f4, f5, f6, f7, f8, f9, f10, f11, f12, f13, d2_8, d2_10, d2_11, d8_10, d8_11, d10_11⟩ := HF.out
          have hgw : W.grows W := World.grows.refl
          refine hK _ _ ?_
          rw [hJd]
          exact ⟨g58, a59, c59, g64, g17, g18, (hf.put (by decide)), (hG.trans hgw), (fun _ => (iS hn rfl)), (iq rfl rfl f1), (ib rfl rfl f2 hgw), (ic rfl rfl f3 fun q => q.keep (fun g hS hl => ⟨hgw.row_eq hl, trivial, (fun h => hS.2.1 (iU rfl h)), (fun h => hS.2.2 (iU rfl h))⟩)), (iq rfl rfl f4), (iq rfl rfl f5), (iq rfl rfl f6), (iq rfl rfl f7), (ib rfl rfl f8 hgw), (iq rfl rfl f9), (ia rfl rfl (iU rfl) f10 hgw), (ia rfl rfl (iU rfl) f11 hgw), (iw rfl f12), (iw rfl f13), (id2 rfl rfl d2_8), (id2 rfl rfl d2_10), (id2 rfl rfl d2_11), (id2 rfl rfl d8_10), (id2 rfl rfl d8_11), (id2 rfl rfl d10_11)⟩
        · intro L a W hL hd hcl hJ K hK
          rw [hJd] at hJ
          obtain ⟨g58, a59, c59, g64, g17, g18, hB⟩ := hJ
          have hn : a.tmps.size = 106 := hB.1.2.1
          have hgV : World.grows W6 W := World.grows.trans (grD grA) hB.2.1
          have e14 := hB.1.2.2 14 (by decide); have e14r := get_eval e14
          have hg5 := h5.trans hgV; have r13 := hgV.row_eq z13.1; have r14 := hgV.row_eq z14.1; have rc := hgV.row_eq zc.1; have rk := hgV.row_eq zk.1; have r15 := hgV.row_eq z15.1; have r16 := hgV.row_eq z16.1; rw [m13] at r13; rw [m14] at r14; rw [mc] at rc; rw [mk] at rk; rw [m15] at r15; rw [m16] at r16; have y13 := row_sz' r13; have y14 := row_sz' r14; have yc := row_sz' rc; have yk := row_sz' rk; have y15 := row_sz' r15; have y16 := row_sz' r16
          have HF := Lib.hid (And.intro hL (And.intro hd (And.intro hcl (And.intro hn hB))))
          clear hL hd hcl hn hB
          go_simp
          obtain ⟨hL, hd, hcl, hn, hf, hG, f0, f1, f2, f3, f4, f5, f6, f7, f8, f9, f10, f11, f12, f13, d2_8, d2_10, d2_11, d8_10, d8_11, d10_11⟩ := HF.out
          have hgw : W.grows W := World.grows.refl
          refine hK _ _ ?_
          rw [hJd]
          exact ⟨g58, a59, c59, g64, g17, g18, (hf.put (by decide)), (hG.trans hgw), (iq rfl rfl f0), (fun _ => (iS hn rfl)), (ib rfl rfl f2 hgw), (ic rfl rfl f3 fun q => q.keep (fun g hS hl => ⟨hgw.row_eq hl, trivial, (fun h => hS.2.1 (iU rfl h)), (fun h => hS.2.2 (iU rfl h))⟩)), (iq rfl rfl f4), (iq rfl rfl f5), (iq rfl rfl f6), (iq rfl rfl f7), (ib rfl rfl f8 hgw), (iq rfl rfl f9), (ia rfl rfl (iU rfl) f10 hgw), (ia rfl rfl (iU rfl) f11 hgw), (iw rfl f12), (iw rfl f13), (id2 rfl rfl d2_8), (id2 rfl rfl d2_10), (id2 rfl rfl d2_11), (id2 rfl rfl d8_10), (id2 rfl rfl d8_11), (id2 rfl rfl d10_11)⟩
        · intro L a W hL hd hcl hJ K hK
          rw [hJd] at hJ
          obtain ⟨g58, a59, c59, g64, g17, g18, hB⟩ := hJ
          have hn : a.tmps.size = 106 := hB.1.2.1
          have hgV : World.grows W6 W := World.grows.trans (grD grA) hB.2.1
          have p0 := hB.2.2.1 (hd 0 (by kernel_rfl))
          have p1 := hB.2.2.2.1 (hd 1 (by kernel_rfl))
          have p0r := get_eval p0; have p0q := get_some p0 (by rw [hn]; decide)
          have p1r := get_eval p1; have p1q := get_some p1 (by rw [hn]; decide)
          have HF := Lib.hid (And.intro hL (And.intro hd (And.intro hcl (And.intro hn hB))))
          clear hL hd hcl hn hB
          go_simp
          obtain ⟨hL, hd, hcl, hn, hf, hG, f0, f1, f2, f3, f4, f5, f6, f7, f8, f9, f10, f11, f12, f13, d2_8, d2_10, d2_11, d8_10, d8_11, d10_11⟩ := HF.out
          have hgA : ∀ o, W.grows (W.alloc o) := fun o => World.grows.alloc World.grows.refl o
          refine hK _ _ ?_
          rw [hJd]
          exact ⟨W.heap.size, a59, c59, g64, g17, g18, (hf.put (by decide)), (hG.trans (hgA _)), (iq rfl rfl f0), (iq rfl rfl f1), (fun _ => ⟨(iS hn rfl), hG.below.size, (by rw [World.size_alloc]; exact Nat.lt_succ_self _), (by simp [go_sem])⟩), (ic rfl rfl f3 fun q => q.keep (fun g hS hl => ⟨(hgA _).row_eq hl, trivial, (fun h => hS.2.1 (iU rfl h)), (fun h => hS.2.2 (iU rfl h))⟩)), (iq rfl rfl f4), (iq rfl rfl f5), (iq rfl rfl f6), (iq rfl rfl f7), (ib rfl rfl f8 (hgA _)), (iq rfl rfl f9), (ia rfl rfl (iU rfl) f10 (hgA _)), (ia rfl rfl (iU rfl) f11 (hgA _)), (iw rfl f12), (iw rfl f13), (fun h h2 => Ne.symm (Nat.ne_of_lt (f8 (iU rfl h2)).2.2.1)), (fun h h2 => Ne.symm (Nat.ne_of_lt (f10 (iU rfl h2)).2.2.1)), (fun h h2 => Ne.symm (Nat.ne_of_lt (f11 (iU rfl h2)).2.2.1)), (id2 rfl rfl d8_10), (id2 rfl rfl d8_11), (id2 rfl rfl d10_11)⟩
        · intro L a W hL hd hcl hJ K hK
          rw [hJd] at hJ
          obtain ⟨g58, a59, c59, g64, g17, g18, hB⟩ := hJ
          have hn : a.tmps.size = 106 := hB.1.2.1
          have hgV : World.grows W6 W := World.grows.trans (grD grA) hB.2.1
          obtain ⟨p2, pl2, ps2, pr2⟩ := hB.2.2.2.2.1 (hd 2 (by kernel_rfl)); have pz2 := row_sz' pr2
          have p2r := get_eval p2
          have hg5 := h5.trans hgV; have r13 := hgV.row_eq z13.1; have r14 := hgV.row_eq z14.1; have rc := hgV.row_eq zc.1; have rk := hgV.row_eq zk.1; have r15 := hgV.row_eq z15.1; have r16 := hgV.row_eq z16.1; rw [m13] at r13; rw [m14] at r14; rw [mc] at rc; rw [mk] at rk; rw [m15] at r15; rw [m16] at r16; have y13 := row_sz' r13; have y14 := row_sz' r14; have yc := row_sz' rc; have yk := row_sz' rk; have y15 := row_sz' r15; have y16 := row_sz' r16
          have HSX := Lib.hid (show ∀ g, W.heap.size ≤ g → (fun g => True ∧ (L 10 = true → g ≠ g17) ∧ (L 11 = true → g ≠ g18)) g from fun g hg => ⟨trivial, (fun h => Nat.ne_of_gt (Nat.lt_of_lt_of_le (hB.2.2.2.2.2.2.2.2.2.2.2.2.1 h).2.2.1 hg)), (fun h => Nat.ne_of_gt (Nat.lt_of_lt_of_le (hB.2.2.2.2.2.2.2.2.2.2.2.2.2.1 h).2.2.1 hg))⟩)
          have HSO := Lib.hid (show ∀ g, g < (W6).heap.size → (fun g => True ∧ (L 10 = true → g ≠ g17) ∧ (L 11 = true → g ≠ g18)) g from fun g hg => ⟨trivial, (fun h => Nat.ne_of_lt (Nat.lt_of_lt_of_le hg (hB.2.2.2.2.2.2.2.2.2.2.2.2.1 h).2.1)), (fun h => Nat.ne_of_lt (Nat.lt_of_lt_of_le hg (hB.2.2.2.2.2.2.2.2.2.2.2.2.2.1 h).2.1))⟩)
          have HSB2 := Lib.hid (show (fun g => True ∧ (L 10 = true → g ≠ g17) ∧ (L 11 = true → g ≠ g18)) g58 from ⟨trivial, (fun h => hB.2.2.2.2.2.2.2.2.2.2.2.2.2.2.2.2.2.1 (hd 2 (by kernel_rfl)) h), (fun h => hB.2.2.2.2.2.2.2.2.2.2.2.2.2.2.2.2.2.2.1 (hd 2 (by kernel_rfl)) h)⟩)
          have HF := Lib.hid (And.intro hL (And.intro hd (And.intro hcl (And.intro hn hB))))
          clear hL hd hcl hn hB
          go_simp
          (go_at_call 35; (with_reducible refine (K9.out W _ g58 _ _ HSX.out HSB2.out (hkF.out.keep (fun g _ hl => ⟨hg5.row_eq hl, HSO.out g (Nat.lt_of_lt_of_le hl h5V)⟩)) (hkG.out.keep (fun g _ hl => ⟨hg5.row_eq hl, HSO.out g (Nat.lt_of_lt_of_le hl h5V)⟩)) pr2).mono ?_); rintro e w5 ⟨a7, c7, rfl, hg7, h77, h7b, h7s⟩)
          refine ⟨_, rfl, ?_⟩
          obtain ⟨hL, hd, hcl, hn, hf, hG, f0, f1, f2, f3, f4, f5, f6, f7, f8, f9, f10, f11, f12, f13, d2_8, d2_10, d2_11, d8_10, d8_11, d10_11⟩ := HF.out
          have hgw : W.grows w5 := hg7
          refine hK _ _ ?_
          rw [hJd]
          exact ⟨g58, a7, c7, g64, g17, g18, (hf.put (by decide)), (hG.trans hgw), (iq rfl rfl f0), (iq rfl rfl f1), (ib rfl rfl f2 hgw), (fun _ => ⟨(iS hn rfl), (FormOk_of_parts h77 h7b h7s).keep (fun g hS _ => ⟨rfl, trivial, (fun h => hS.2.1 (iU rfl h)), (fun h => hS.2.2 (iU rfl h))⟩)⟩), (iq rfl rfl f4), (iq rfl rfl f5), (iq rfl rfl f6), (iq rfl rfl f7), (ib rfl rfl f8 hgw), (iq rfl rfl f9), (ia rfl rfl (iU rfl) f10 hgw), (ia rfl rfl (iU rfl) f11 hgw), (iw rfl f12), (iw rfl f13), (id2 rfl rfl d2_8), (id2 rfl rfl d2_10), (id2 rfl rfl d2_11), (id2 rfl rfl d8_10), (id2 rfl rfl d8_11), (id2 rfl rfl d10_11)⟩
        · intro L a W hL hd hcl hJ K hK
          rw [hJd] at hJ
          obtain ⟨g58, a59, c59, g64, g17, g18, hB⟩ := hJ
          have hn : a.tmps.size = 106 := hB.1.2.1
          have hgV : World.grows W6 W := World.grows.trans (grD grA) hB.2.1
          have e7 := hB.1.2.2 7 (by decide); have e7r := get_eval e7
          have hg5 := h5.trans hgV; have r13 := hgV.row_eq z13.1; have r14 := hgV.row_eq z14.1; have rc := hgV.row_eq zc.1; have rk := hgV.row_eq zk.1; have r15 := hgV.row_eq z15.1; have r16 := hgV.row_eq z16.1; rw [m13] at r13; rw [m14] at r14; rw [mc] at rc; rw [mk] at rk; rw [m15] at r15; rw [m16] at r16; have y13 := row_sz' r13; have y14 := row_sz' r14; have yc := row_sz' rc; have yk := row_sz' rk; have y15 := row_sz' r15; have y16 := row_sz' r16
          have HF := Lib.hid (And.intro hL (And.intro hd (And.intro hcl (And.intro hn hB))))
          clear hL hd hcl hn hB
          go_simp
          obtain ⟨hL, hd, hcl, hn, hf, hG, f0, f1, f2, f3, f4, f5, f6, f7, f8, f9, f10, f11, f12, f13, d2_8, d2_10, d2_11, d8_10, d8_11, d10_11⟩ := HF.out
          have hgw : W.grows W := World.grows.refl
          refine hK _ _ ?_
          rw [hJd]
          exact ⟨g58, a59, c59, g64, g17, g18, (hf.put (by decide)), (hG.trans hgw), (iq rfl rfl f0), (iq rfl rfl f1), (ib rfl rfl f2 hgw), (ic rfl rfl f3 fun q => q.keep (fun g hS hl => ⟨hgw.row_eq hl, trivial, (fun h => hS.2.1 (iU rfl h)), (fun h => hS.2.2 (iU rfl h))⟩)), (fun _ => (iS hn rfl)), (iq rfl rfl f5), (iq rfl rfl f6), (iq rfl rfl f7), (ib rfl rfl f8 hgw), (iq rfl rfl f9), (ia rfl rfl (iU rfl) f10 hgw), (ia rfl rfl (iU rfl) f11 hgw), (iw rfl f12), (iw rfl f13), (id2 rfl rfl d2_8), (id2 rfl rfl d2_10), (id2 rfl rfl d2_11), (id2 rfl rfl d8_10), (id2 rfl rfl d8_11), (id2 rfl rfl d10_11)⟩
        · intro L a W hL hd hcl hJ K hK
          rw [hJd] at hJ
          obtain ⟨g58, a59, c59, g64, g17, g18, hB⟩ := hJ
          have hn : a.tmps.size = 106 := hB.1.2.1
          have hgV : World.grows W6 W := World.grows.trans (grD grA) hB.2.1
          obtain ⟨p3, pq3⟩ := hB.2.2.2.2.2.1 (hd 3 (by kernel_rfl))
          have p4 := hB.2.2.2.2.2.2.1 (hd 4 (by kernel_rfl))
          have p3r := get_eval p3
          have p4r := get_eval p4
          have hg5 := h5.trans hgV; have r13 := hgV.row_eq z13.1; have r14 := hgV.row_eq z14.1; have rc := hgV.row_eq zc.1; have rk := hgV.row_eq zk.1; have r15 := hgV.row_eq z15.1; have r16 := hgV.row_eq z16.1; rw [m13] at r13; rw [m14] at r14; rw [mc] at rc; rw [mk] at rk; rw [m15] at r15; rw [m16] at r16; have y13 := row_sz' r13; have y14 := row_sz' r14; have yc := row_sz' rc; have yk := row_sz' rk; have y15 := row_sz' r15; have y16 := row_sz' r16
          have HF := Lib.hid (And.intro hL (And.intro hd (And.intro hcl (And.intro hn hB))))
          clear hL hd hcl hn hB
          go_simp
          (go_at_call 40; (with_reducible refine (K7.out W _ (pq3.keep fun _ _ _ => ⟨rfl, trivial⟩)).mono ?_); rintro e w5 ⟨rfl, x5, rfl⟩)
          refine ⟨_, rfl, ?_⟩
          obtain ⟨hL, hd, hcl, hn, hf, hG, f0, f1, f2, f3, f4, f5, f6, f7, f8, f9, f10, f11, f12, f13, d2_8, d2_10, d2_11, d8_10, d8_11, d10_11⟩ := HF.out
          have hgw : W.grows (W.plus x5) := (World.grows.plus World.grows.refl _)
          refine hK _ _ ?_
          rw [hJd]
          exact ⟨g58, a59, c59, g64, g17, g18, (hf.put (by decide)), (hG.trans hgw), (iq rfl rfl f0), (iq rfl rfl f1), (ib rfl rfl f2 hgw), (ic rfl rfl f3 fun q => q.keep (fun g hS hl => ⟨hgw.row_eq hl, trivial, (fun h => hS.2.1 (iU rfl h)), (fun h => hS.2.2 (iU rfl h))⟩)), (iq rfl rfl f4), (fun _ => (iS hn rfl)), (iq rfl rfl f6), (iq rfl rfl f7), (ib rfl rfl f8 hgw), (iq rfl rfl f9), (ia rfl rfl (iU rfl) f10 hgw), (ia rfl rfl (iU rfl) f11 hgw), (iw rfl f12), (iw rfl f13), (id2 rfl rfl d2_8), (id2 rfl rfl d2_10), (id2 rfl rfl d2_11), (id2 rfl rfl d8_10), (id2 rfl rfl d8_11), (id2 rfl rfl d10_11)⟩
        · intro L a W hL hd hcl hJ K hK
          rw [hJd] at hJ
          obtain ⟨g58, a59, c59, g64, g17, g18, hB⟩ := hJ
          have hn : a.tmps.size = 106 := hB.1.2.1
          have hgV : World.grows W6 W := World.grows.trans (grD grA) hB.2.1
          have e15 := hB.1.2.2 15 (by decide); have e15r := get_eval e15
          have hg5 := h5.trans hgV; have r13 := hgV.row_eq z13.1; have r14 := hgV.row_eq z14.1; have rc := hgV.row_eq zc.1; have rk := hgV.row_eq zk.1; have r15 := hgV.row_eq z15.1; have r16 := hgV.row_eq z16.1; rw [m13] at r13; rw [m14] at r14; rw [mc] at rc; rw [mk] at rk; rw [m15] at r15; rw [m16] at r16; have y13 := row_sz' r13; have y14 := row_sz' r14; have yc := row_sz' rc; have yk := row_sz' rk; have y15 := row_sz' r15; have y16 := row_sz' r16
          have HF := Lib.hid (And.intro hL (And.intro hd (And.intro hcl (And.intro hn hB))))
          clear hL hd hcl hn hB
          go_simp
          obtain ⟨hL, hd, hcl, hn, hf, hG, f0, f1, f2, f3, f4, f5, f6, f7, f8, f9, f10, f11, f12, f13, d2_8, d2_10, d2_11, d8_10, d8_11, d10_11⟩ := HF.out
          have hgw : W.grows W := World.grows.refl
          refine hK _ _ ?_
          rw [hJd]
          exact ⟨g58, a59, c59, g64, g17, g18, (hf.put (by decide)), (hG.trans hgw), (iq rfl rfl f0), (iq rfl rfl f1), (ib rfl rfl f2 hgw), (ic rfl rfl f3 fun q => q.keep (fun g hS hl => ⟨hgw.row_eq hl, trivial, (fun h => hS.2.1 (iU rfl h)), (fun h => hS.2.2 (iU rfl h))⟩)), (iq rfl rfl f4), (iq rfl rfl f5), (fun _ => (iS hn rfl)), (iq rfl rfl f7), (ib rfl rfl f8 hgw), (iq rfl rfl f9), (ia rfl rfl (iU rfl) f10 hgw), (ia rfl rfl (iU rfl) f11 hgw), (iw rfl f12), (iw rfl f13), (id2 rfl rfl d2_8), (id2 rfl rfl d2_10), (id2 rfl rfl d2_11), (id2 rfl rfl d8_10), (id2 rfl rfl d8_11), (id2 rfl rfl d10_11)⟩
        · intro L a W hL hd hcl hJ K hK
          rw [hJd] at hJ
          obtain ⟨g58, a59, c59, g64, g17, g18, hB⟩ := hJ
          have hn : a.tmps.size = 106 := hB.1.2.1
          have hgV : World.grows W6 W := World.grows.trans (grD grA) hB.2.1
          have e16 := hB.1.2.2 16 (by decide); have e16r := get_eval e16
          have hg5 := h5.trans hgV; have r13 := hgV.row_eq z13.1; have r14 := hgV.row_eq z14.1; have rc := hgV.row_eq zc.1; have rk := hgV.row_eq zk.1; have r15 := hgV.row_eq z15.1; have r16 := hgV.row_eq z16.1; rw [m13] at r13; rw [m14] at r14; rw [mc] at rc; rw [mk] at rk; rw [m15] at r15; rw [m16] at r16; have y13 := row_sz' r13; have y14 := row_sz' r14; have yc := row_sz' rc; have yk := row_sz' rk; have y15 := row_sz' r15; have y16 := row_sz' r16
          have HF := Lib.hid (And.intro hL (And.intro hd (And.intro hcl (And.intro hn hB))))
          clear hL hd hcl hn hB
          go_simp
          obtain ⟨hL, hd, hcl, hn, hf, hG, f0, f1, f2, f3, f4, f5, f6, f7, f8, f9, f10, f11, f12, f13, d2_8, d2_10, d2_11, d8_10, d8_11, d10_11⟩ := HF.out
          have hgw : W.grows W := World.grows.refl
          refine hK _ _ ?_
          rw [hJd]
          exact ⟨g58, a59, c59, g64, g17, g18, (hf.put (by decide)), (hG.trans hgw), (iq rfl rfl f0), (iq rfl rfl f1), (ib rfl rfl f2 hgw), (ic rfl rfl f3 fun q => q.keep (fun g hS hl => ⟨hgw.row_eq hl, trivial, (fun h => hS.2.1 (iU rfl h)), (fun h => hS.2.2 (iU rfl h))⟩)), (iq rfl rfl f4), (iq rfl rfl f5), (iq rfl rfl f6), (fun _ => (iS hn rfl)), (ib rfl rfl f8 hgw), (iq rfl rfl f9), (ia rfl rfl (iU rfl) f10 hgw), (ia rfl rfl (iU rfl) f11 hgw), (iw rfl f12), (iw rfl f13), (id2 rfl rfl d2_8), (id2 rfl rfl d2_10), (id2 rfl rfl d2_11), (id2 rfl rfl d8_10), (id2 rfl rfl d8_11), (id2 rfl rfl d10_11)⟩
        · intro L a W hL hd hcl hJ K hK
          rw [hJd] at hJ
          obtain ⟨g58, a59, c59, g64, g17, g18, hB⟩ := hJ
          have hn : a.tmps.size = 106 := hB.1.2.1
          have hgV : World.grows W6 W := World.grows.trans (grD grA) hB.2.1
          have p6 := hB.2.2.2.2.2.2.2.2.1 (hd 6 (by kernel_rfl))
          have p7 := hB.2.2.2.2.2.2.2.2.2.1 (hd 7 (by kernel_rfl))
          have p6r := get_eval p6; have p6q := get_some p6 (by rw [hn]; decide)
          have p7r := get_eval p7; have p7q := get_some p7 (by rw [hn]; decide)
          have HF := Lib.hid (And.intro hL (And.intro hd (And.intro hcl (And.intro hn hB))))
          clear hL hd hcl hn hB
          go_simp
          obtain ⟨hL, hd, hcl, hn, hf, hG, f0, f1, f2, f3, f4, f5, f6, f7, f8, f9, f10, f11, f12, f13, d2_8, d2_10, d2_11, d8_10, d8_11, d10_11⟩ := HF.out
          have hgA : ∀ o, W.grows (W.alloc o) := fun o => World.grows.alloc World.grows.refl o
          refine hK _ _ ?_
          rw [hJd]
          exact ⟨g58, a59, c59, W.heap.size, g17, g18, (hf.put (by decide)), (hG.trans (hgA _)), (iq rfl rfl f0), (iq rfl rfl f1), (ib rfl rfl f2 (hgA _)), (ic rfl rfl f3 fun q => q.keep (fun g hS hl => ⟨(hgA _).row_eq hl, trivial, (fun h => hS.2.1 (iU rfl h)), (fun h => hS.2.2 (iU rfl h))⟩)), (iq rfl rfl f4), (iq rfl rfl f5), (iq rfl rfl f6), (iq rfl rfl f7), (fun _ => ⟨(iS hn rfl), hG.below.size, (by rw [World.size_alloc]; exact Nat.lt_succ_self _), (by simp [go_sem])⟩), (iq rfl rfl f9), (ia rfl rfl (iU rfl) f10 (hgA _)), (ia rfl rfl (iU rfl) f11 (hgA _)), (iw rfl f12), (iw rfl f13), (fun h h2 => id (Nat.ne_of_lt (f2 (iU rfl h)).2.2.1)), (id2 rfl rfl d2_10), (id2 rfl rfl d2_11), (fun h h2 => Ne.symm (Nat.ne_of_lt (f10 (iU rfl h2)).2.2.1)), (fun h h2 => Ne.symm (Nat.ne_of_lt (f11 (iU rfl h2)).2.2.1)), (id2 rfl rfl d10_11)⟩
        · intro L a W hL hd hcl hJ K hK
          rw [hJd] at hJ
          obtain ⟨g58, a59, c59, g64, g17, g18, hB⟩ := hJ
          have hn : a.tmps.size = 106 := hB.1.2.1
          have hgV : World.grows W6 W := World.grows.trans (grD grA) hB.2.1
          have p5 := hB.2.2.2.2.2.2.2.1 (hd 5 (by kernel_rfl))
          obtain ⟨p8, pl8, ps8, pr8⟩ := hB.2.2.2.2.2.2.2.2.2.2.1 (hd 8 (by kernel_rfl)); have pz8 := row_sz' pr8
          have p8r := get_eval p8
          have hg5 := h5.trans hgV; have r13 := hgV.row_eq z13.1; have r14 := hgV.row_eq z14.1; have rc := hgV.row_eq zc.1; have rk := hgV.row_eq zk.1; have r15 := hgV.row_eq z15.1; have r16 := hgV.row_eq z16.1; rw [m13] at r13; rw [m14] at r14; rw [mc] at rc; rw [mk] at rk; rw [m15] at r15; rw [m16] at r16; have y13 := row_sz' r13; have y14 := row_sz' r14; have yc := row_sz' rc; have yk := row_sz' rk; have y15 := row_sz' r15; have y16 := row_sz' r16
          have HF := Lib.hid (And.intro hL (And.intro hd (And.intro hcl (And.intro hn hB))))
          clear hL hd hcl hn hB
          go_simp
          (go_at_call 43; (with_reducible refine (K11.out W g64 pr8).mono ?_); rintro e w5 ⟨rfl, x5, rfl⟩)
          refine ⟨_, rfl, ?_⟩
          obtain ⟨hL, hd, hcl, hn, hf, hG, f0, f1, f2, f3, f4, f5, f6, f7, f8, f9, f10, f11, f12, f13, d2_8, d2_10, d2_11, d8_10, d8_11, d10_11⟩ := HF.out
          have hgw : W.grows (W.plus x5) := (World.grows.plus World.grows.refl _)
          refine hK _ _ ?_
          rw [hJd]
          exact ⟨g58, a59, c59, g64, g17, g18, (hf.put (by decide)), (hG.trans hgw), (iq rfl rfl f0), (iq rfl rfl f1), (ib rfl rfl f2 hgw), (ic rfl rfl f3 fun q => q.keep (fun g hS hl => ⟨hgw.row_eq hl, trivial, (fun h => hS.2.1 (iU rfl h)), (fun h => hS.2.2 (iU rfl h))⟩)), (iq rfl rfl f4), (iq rfl rfl f5), (iq rfl rfl f6), (iq rfl rfl f7), (ib rfl rfl f8 hgw), (fun _ => (iS hn rfl)), (ia rfl rfl (iU rfl) f10 hgw), (ia rfl rfl (iU rfl) f11 hgw), (iw rfl f12), (iw rfl f13), (id2 rfl rfl d2_8), (id2 rfl rfl d2_10), (id2 rfl rfl d2_11), (id2 rfl rfl d8_10), (id2 rfl rfl d8_11), (id2 rfl rfl d10_11)⟩
        · intro L a W hL hd hcl hJ K hK
          rw [hJd] at hJ
          obtain ⟨g58, a59, c59, g64, g17, g18, hB⟩ := hJ
          have hn : a.tmps.size = 106 := hB.1.2.1
          have hgV : World.grows W6 W := World.grows.trans (grD grA) hB.2.1
          have HF := Lib.hid (And.intro hL (And.intro hd (And.intro hcl (And.intro hn hB))))
          clear hL hd hcl hn hB
          go_simp
          obtain ⟨hL, hd, hcl, hn, hf, hG, f0, f1, f2, f3, f4, f5, f6, f7, f8, f9, f10, f11, f12, f13, d2_8, d2_10, d2_11, d8_10, d8_11, d10_11⟩ := HF.out
          have hgA : ∀ o, W.grows (W.alloc o) := fun o => World.grows.alloc World.grows.refl o
          refine hK _ _ ?_
          rw [hJd]
          exact ⟨g58, a59, c59, g64, W.heap.size, g18, (hf.put (by decide)), (hG.trans (hgA _)), (iq rfl rfl f0), (iq rfl rfl f1), (ib rfl rfl f2 (hgA _)), (ic rfl rfl f3 fun q => q.keep (fun g hS hl => ⟨(hgA _).row_eq hl, trivial, (fun _ => Nat.ne_of_lt hl), (fun h => hS.2.2 (iU rfl h))⟩)), (iq rfl rfl f4), (iq rfl rfl f5), (iq rfl rfl f6), (iq rfl rfl f7), (ib rfl rfl f8 (hgA _)), (iq rfl rfl f9), (fun _ => ⟨(iS hn rfl), hG.below.size, (by rw [World.size_alloc]; exact Nat.lt_succ_self _), _, (by rfl), (fun h => (absurd ((hcl 12 10 (by decide) (by kernel_rfl) (iU rfl h)).symm.trans hL) (by decide))), ((World.row_alloc ..).trans (if_pos rfl))⟩), (ia rfl rfl (iU rfl) f11 (hgA _)), (iw rfl f12), (iw rfl f13), (id2 rfl rfl d2_8), (fun h h2 => id (Nat.ne_of_lt (f2 (iU rfl h)).2.2.1)), (id2 rfl rfl d2_11), (fun h h2 => id (Nat.ne_of_lt (f8 (iU rfl h)).2.2.1)), (id2 rfl rfl d8_11), (fun h h2 => Ne.symm (Nat.ne_of_lt (f11 (iU rfl h2)).2.2.1))⟩
        · intro L a W hL hd hcl hJ K hK
          rw [hJd] at hJ
          obtain ⟨g58, a59, c59, g64, g17, g18, hB⟩ := hJ
          have hn : a.tmps.size = 106 := hB.1.2.1
          have hgV : World.grows W6 W := World.grows.trans (grD grA) hB.2.1
          have HF := Lib.hid (And.intro hL (And.intro hd (And.intro hcl (And.intro hn hB))))
          clear hL hd hcl hn hB
          go_simp
          obtain ⟨hL, hd, hcl, hn, hf, hG, f0, f1, f2, f3, f4, f5, f6, f7, f8, f9, f10, f11, f12, f13, d2_8, d2_10, d2_11, d8_10, d8_11, d10_11⟩ := HF.out
          have hgA : ∀ o, W.grows (W.alloc o) := fun o => World.grows.alloc World.grows.refl o
          refine hK _ _ ?_
          rw [hJd]
          exact ⟨g58, a59, c59, g64, g17, W.heap.size, (hf.put (by decide)), (hG.trans (hgA _)), (iq rfl rfl f0), (iq rfl rfl f1), (ib rfl rfl f2 (hgA _)), (ic rfl rfl f3 fun q => q.keep (fun g hS hl => ⟨(hgA _).row_eq hl, trivial, (fun h => hS.2.1 (iU rfl h)), (fun _ => Nat.ne_of_lt hl)⟩)), (iq rfl rfl f4), (iq rfl rfl f5), (iq rfl rfl f6), (iq rfl rfl f7), (ib rfl rfl f8 (hgA _)), (iq rfl rfl f9), (ia rfl rfl (iU rfl) f10 (hgA _)), (fun _ => ⟨(iS hn rfl), hG.below.size, (by rw [World.size_alloc]; exact Nat.lt_succ_self _), _, (by rfl), (fun h => (absurd ((hcl 13 11 (by decide) (by kernel_rfl) (iU rfl h)).symm.trans hL) (by decide))), ((World.row_alloc ..).trans (if_pos rfl))⟩), (iw rfl f12), (iw rfl f13), (id2 rfl rfl d2_8), (id2 rfl rfl d2_10), (fun h h2 => id (Nat.ne_of_lt (f2 (iU rfl h)).2.2.1)), (id2 rfl rfl d8_10), (fun h h2 => id (Nat.ne_of_lt (f8 (iU rfl h)).2.2.1)), (fun h h2 => id (Nat.ne_of_lt (f10 (iU rfl h)).2.2.1))⟩
        · intro L a W hL hd hcl hJ K hK
          rw [hJd] at hJ
          obtain ⟨g58, a59, c59, g64, g17, g18, hB⟩ := hJ
          have hn : a.tmps.size = 106 := hB.1.2.1
          have hgV : World.grows W6 W := World.grows.trans (grD grA) hB.2.1
          have p0 := hB.2.2.1 (hd 0 (by kernel_rfl))
          have p1 := hB.2.2.2.1 (hd 1 (by kernel_rfl))
          obtain ⟨p2, pl2, ps2, pr2⟩ := hB.2.2.2.2.1 (hd 2 (by kernel_rfl)); have pz2 := row_sz' pr2
          obtain ⟨p3, pq3⟩ := hB.2.2.2.2.2.1 (hd 3 (by kernel_rfl))
          have p4 := hB.2.2.2.2.2.2.1 (hd 4 (by kernel_rfl))
          have p5 := hB.2.2.2.2.2.2.2.1 (hd 5 (by kernel_rfl))
          have p9 := hB.2.2.2.2.2.2.2.2.2.2.2.1 (hd 9 (by kernel_rfl))
          obtain ⟨p10, pl10, ps10, pc10, pn10, pu10, pr10⟩ := hB.2.2.2.2.2.2.2.2.2.2.2.2.1 (hd 10 (by kernel_rfl)); have pz10 := row_sz' pr10; have po10 : rowOkW 2 (some (.cells pc10 23)) = true := beq_iff_eq.2 pn10
          obtain ⟨p11, pl11, ps11, pc11, pn11, pu11, pr11⟩ := hB.2.2.2.2.2.2.2.2.2.2.2.2.2.1 (hd 11 (by kernel_rfl)); have pz11 := row_sz' pr11; have po11 : rowOkW 2 (some (.cells pc11 23)) = true := beq_iff_eq.2 pn11
          have p10r := get_eval p10
          have p5r := get_eval p5
          have HF := Lib.hid (And.intro hL (And.intro hd (And.intro hcl (And.intro hn hB))))
          clear hL hd hcl hn hB
          go_simp
          obtain ⟨hL, hd, hcl, hn, hf, hG, f0, f1, f2, f3, f4, f5, f6, f7, f8, f9, f10, f11, f12, f13, d2_8, d2_10, d2_11, d8_10, d8_11, d10_11⟩ := HF.out
          refine hK _ _ ?_
          rw [hJd]
          exact ⟨g58, a59, c59, g64, g17, g18, hf, (hG.setRow' (Nat.le_trans pl10 (Nat.le_refl _)) _), (iq0 rfl f0), (iq0 rfl f1), (ib0 rfl f2 (fun h => d2_10 (iU rfl h) (hd 10 (by kernel_rfl)))), (ic0 rfl f3 fun q => q.keep (fun g hS hl => ⟨by rw [World.row_setRow, if_neg (hS.2.1 (hd 10 (by kernel_rfl)))], trivial, (fun h => hS.2.1 (iU rfl h)), (fun h => hS.2.2 (iU rfl h))⟩)), (iq0 rfl f4), (iq0 rfl f5), (iq0 rfl f6), (iq0 rfl f7), (ib0 rfl f8 (fun h => d8_10 (iU rfl h) (hd 10 (by kernel_rfl)))), (iq0 rfl f9), (fun _ => ⟨p10, pl10, (by rw [World.setRow_size']; exact ps10), _, (by first | rfl | (simp [go_sem]; done) | (simp [go_sem, *]; done)), (fun _ => rfl), (by rw [World.row_setRow, if_pos rfl, pr10]; first | done | rfl)⟩), (ia0 rfl rfl f11 (fun h => Ne.symm (d10_11 (hd 10 (by kernel_rfl)) (iU rfl h)))), (fun _ => upL_of (hd 10 (by kernel_rfl))), (iw rfl f13), (id2 rfl rfl d2_8), (id2 rfl rfl d2_10), (id2 rfl rfl d2_11), (id2 rfl rfl d8_10), (id2 rfl rfl d8_11), (id2 rfl rfl d10_11)⟩
        · intro L a W hL hd hcl hJ K hK
          rw [hJd] at hJ
          obtain ⟨g58, a59, c59, g64, g17, g18, hB⟩ := hJ
          have hn : a.tmps.size = 106 := hB.1.2.1
          have hgV : World.grows W6 W := World.grows.trans (grD grA) hB.2.1
          have p0 := hB.2.2.1 (hd 0 (by kernel_rfl))
          have p1 := hB.2.2.2.1 (hd 1 (by kernel_rfl))
          obtain ⟨p2, pl2, ps2, pr2⟩ := hB.2.2.2.2.1 (hd 2 (by kernel_rfl)); have pz2 := row_sz' pr2
          obtain ⟨p3, pq3⟩ := hB.2.2.2.2.2.1 (hd 3 (by kernel_rfl))
          have p4 := hB.2.2.2.2.2.2.1 (hd 4 (by kernel_rfl))
          have p5 := hB.2.2.2.2.2.2.2.1 (hd 5 (by kernel_rfl))
          have p6 := hB.2.2.2.2.2.2.2.2.1 (hd 6 (by kernel_rfl))
          have p7 := hB.2.2.2.2.2.2.2.2.2.1 (hd 7 (by kernel_rfl))
          obtain ⟨p8, pl8, ps8, pr8⟩ := hB.2.2.2.2.2.2.2.2.2.2.1 (hd 8 (by kernel_rfl)); have pz8 := row_sz' pr8
          have p9 := hB.2.2.2.2.2.2.2.2.2.2.2.1 (hd 9 (by kernel_rfl))
          obtain ⟨p10, pl10, ps10, pc10, pn10, pu10, pr10⟩ := hB.2.2.2.2.2.2.2.2.2.2.2.2.1 (hd 10 (by kernel_rfl)); have pz10 := row_sz' pr10; have po10 : rowOkW 2 (some (.cells pc10 23)) = true := beq_iff_eq.2 pn10
          obtain ⟨p11, pl11, ps11, pc11, pn11, pu11, pr11⟩ := hB.2.2.2.2.2.2.2.2.2.2.2.2.2.1 (hd 11 (by kernel_rfl)); have pz11 := row_sz' pr11; have po11 : rowOkW 2 (some (.cells pc11 23)) = true := beq_iff_eq.2 pn11
          have p11r := get_eval p11
          have p9r := get_eval p9
          have HF := Lib.hid (And.intro hL (And.intro hd (And.intro hcl (And.intro hn hB))))
          clear hL hd hcl hn hB
          go_simp
          obtain ⟨hL, hd, hcl, hn, hf, hG, f0, f1, f2, f3, f4, f5, f6, f7, f8, f9, f10, f11, f12, f13, d2_8, d2_10, d2_11, d8_10, d8_11, d10_11⟩ := HF.out
          refine hK _ _ ?_
          rw [hJd]
          exact ⟨g58, a59, c59, g64, g17, g18, hf, (hG.setRow' (Nat.le_trans pl11 (Nat.le_refl _)) _), (iq0 rfl f0), (iq0 rfl f1), (ib0 rfl f2 (fun h => d2_11 (iU rfl h) (hd 11 (by kernel_rfl)))), (ic0 rfl f3 fun q => q.keep (fun g hS hl => ⟨by rw [World.row_setRow, if_neg (hS.2.2 (hd 11 (by kernel_rfl)))], trivial, (fun h => hS.2.1 (iU rfl h)), (fun h => hS.2.2 (iU rfl h))⟩)), (iq0 rfl f4), (iq0 rfl f5), (iq0 rfl f6), (iq0 rfl f7), (ib0 rfl f8 (fun h => d8_11 (iU rfl h) (hd 11 (by kernel_rfl)))), (iq0 rfl f9), (ia0 rfl rfl f10 (fun h => d10_11 (iU rfl h) (hd 11 (by kernel_rfl)))), (fun _ => ⟨p11, pl11, (by rw [World.setRow_size']; exact ps11), _, (by first | rfl | (simp [go_sem]; done) | (simp [go_sem, *]; done)), (fun _ => rfl), (by rw [World.row_setRow, if_pos rfl, pr11]; first | done | rfl)⟩), (iw rfl f12), (fun _ => upL_of (hd 11 (by kernel_rfl))), (id2 rfl rfl d2_8), (id2 rfl rfl d2_10), (id2 rfl rfl d2_11), (id2 rfl rfl d8_10), (id2 rfl rfl d8_11), (id2 rfl rfl d10_11)⟩
      · intro a W7 hJ
        rw [hJd] at hJ
        obtain ⟨g58, a59, c59, g64, g17, g18, hf, hG, f0, f1, f2, f3, f4, f5, f6, f7, f8, f9, f10, f11, f12, f13, d2_8, d2_10, d2_11, d8_10, d8_11, d10_11⟩ := hJ
        clear hJd
        replace f0 := f0 rfl
        replace f1 := f1 rfl
        obtain ⟨f2, pl2, ps2, pr2⟩ := f2 rfl
        obtain ⟨f3, pq3⟩ := f3 rfl
        replace f4 := f4 rfl
        replace f5 := f5 rfl
        replace f6 := f6 rfl
        replace f7 := f7 rfl
        obtain ⟨f8, pl8, ps8, pr8⟩ := f8 rfl
        replace f9 := f9 rfl
        obtain ⟨f10, pl10, ps10, pc10, pn10, pu10, pr10⟩ := f10 rfl; obtain rfl := pu10 rfl
        obtain ⟨f11, pl11, ps11, pc11, pn11, pu11, pr11⟩ := f11 rfl; obtain rfl := pu11 rfl
        clear f12
        clear f13
        replace d2_8 := d2_8 rfl rfl
        replace d2_10 := d2_10 rfl rfl
        replace d2_11 := d2_11 rfl rfl
        replace d8_10 := d8_10 rfl rfl
        replace d8_11 := d8_11 rfl rfl
        replace d10_11 := d10_11 rfl rfl
        have ha := hf.puts [56, 57, 58, 59, 60, 61, 62, 63, 64, 65, 17, 18] _ (by intro d hd; show d < 106; revert d; decide)
        simp only [List.map_cons, List.map_nil, f0, f1, f2, f3, f4, f5, f6, f7, f8, f9, f10, f11] at ha
        clear f0 f1 f2 f3 f4 f5 f6 f7 f8 f9 f10 f11 hf
        subst ha
        have hgV : World.grows W6 W7 := World.grows.trans (by first | (exact World.grows.drew World.grows.refl; done) | (show World.grows _ _; repeat (with_reducible first | assumption | exact grA | apply grB | apply grC | apply grD | refine grE ?_ (by omega) _))) hG
        simp only [putL]
        go_simp
        clear pq3 pr2 pl2 ps2 pr8 pl8 ps8 d2_8 d2_10 d2_11 d8_10 d8_11 d10_11
        have h67 := hgV
        have n13 := (hgV.row_eq z13.1).trans m13; have nc := (hgV.row_eq zc.1).trans mc; have nk := (hgV.row_eq zk.1).trans mk; have n15 := (hgV.row_eq z15.1).trans m15
        have n17 := pr10; have n18 := pr11
        replace h5 := h5.trans hgV
        replace h5V := h5.below.size
        clear m13 m14 mc mk m15 m16 z13 z14 zc zk z15 z16 pr10 pr11 pn10 pn11 pl10 pl11 ps10 ps11 hG hgV
        have z13 := row_sz' n13; have zc := row_sz' nc; have zk := row_sz' nk; have z15 := row_sz' n15; have z17 := row_sz' n17; have z18 := row_sz' n18
        go_upto_region 8 with fail
        obtain ⟨J, hJd⟩ : ∃ J : Act → World → (Nat → Bool) → Act → World → Prop, J = (fun a0 w0 L a' W => ∃ (a68 : Option Addr) (c68 : Nat) (g73 : Nat) (g19 : Nat) (g20 : Nat), Fr a0 [66, 67, 68, 69, 70, 71, 72, 73, 74, 19, 20] a' ∧ w0.grows W ∧ (L 0 = true → a'.tmps.getD 66 undef = .agg (formC F.us (.slice a47 F.ps.length c47)).toArray) ∧ (L 1 = true → a'.tmps.getD 67 undef = .agg #[.int .i64 k1, .int .i64 k2]) ∧ (L 2 = true → a'.tmps.getD 68 undef = .agg (formC I.us (.slice a68 I.ps.length c68)).toArray ∧ FormOk W (fun g => True ∧ (L 9 = true → g ≠ g19) ∧ (L 10 = true → g ≠ g20)) I (formC I.us (.slice a68 I.ps.length c68))) ∧ (L 3 = true → a'.tmps.getD 69 undef = .agg #[.int .i64 c1, .int .i64 c2, .int .i64 c3, .int .i64 c4, .int .i64 c5, .int .i64 c6, .int .i64 c7, .int .i64 c8, .int .i64 c9, .int .i64 c10, .int .i64 c11, .int .i64 c12]) ∧ (L 4 = true → a'.tmps.getD 70 undef = .agg #[.int .i64 U1, .int .i64 U2]) ∧ (L 5 = true → a'.tmps.getD 71 undef = .agg #[.int .i64 P1, .int .i64 P2]) ∧ (L 6 = true → a'.tmps.getD 72 undef = .agg #[.int .i64 k1, .int .i64 k2]) ∧ (L 7 = true → a'.tmps.getD 73 undef = .slice (some ⟨g73, 0, none⟩) 2 2 ∧ w0.heap.size ≤ g73 ∧ g73 < W.heap.size ∧ W.row g73 = some (.cells #[.int .i64 P1, .int .i64 P2, .int .i64 k1, .int .i64 k2] 23)) ∧ (L 8 = true → a'.tmps.getD 74 undef = .agg #[.int .i64 Z1, .int .i64 Z2]) ∧ (L 9 = true → a'.tmps.getD 19 undef = .pointer (some ⟨g19, 0, none⟩) ∧ w0.heap.size ≤ g19 ∧ g19 < W.heap.size ∧ ∃ cs : Array Value, cs.size = 2 ∧ (L 11 = true → cs = #[.int .i64 U1, .int .i64 U2]) ∧ W.row g19 = some (.cells cs 23)) ∧ (L 10 = true → a'.tmps.getD 20 undef = .pointer (some ⟨g20, 0, none⟩) ∧ w0.heap.size ≤ g20 ∧ g20 < W.heap.size ∧ ∃ cs : Array Value, cs.size = 2 ∧ (L 12 = true → cs = #[.int .i64 Z1, .int .i64 Z2]) ∧ W.row g20 = some (.cells cs 23)) ∧ (L 11 = true → L 9 = true) ∧ (L 12 = true → L 10 = true) ∧ (L 7 = true → L 9 = true → g73 ≠ g19) ∧ (L 7 = true → L 10 = true → g73 ≠ g20) ∧ (L 9 = true → L 10 = true → g19 ≠ g20)) := ⟨_, rfl⟩
        refine wp_region_inv_lit (by kernel_rfl) (by kernel_rfl) J ?_ ?_ ?_
        · intro L hL
          rw [hJd]
          exact ⟨default, default, 0, 0, 0, Fr.refl, World.grows.refl, (iN (hL 0 (by decide))), (iN (hL 1 (by decide))), (iN (hL 2 (by decide))), (iN (hL 3 (by decide))), (iN (hL 4 (by decide))), (iN (hL 5 (by decide))), (iN (hL 6 (by decide))), (iN (hL 7 (by decide))), (iN (hL 8 (by decide))), (iN (hL 9 (by decide))), (iN (hL 10 (by decide))), (iN (hL 11 (by decide))), (iN (hL 12 (by decide))), (iN (hL 7 (by decide))), (iN (hL 7 (by decide))), (iN (hL 9 (by decide)))⟩
        · refine And.intro ?_ (And.intro ?_ (And.intro ?_ (And.intro ?_ (And.intro ?_ (And.intro ?_ (And.intro ?_ (And.intro ?_ (And.intro ?_ (And.intro ?_ (And.intro ?_ (And.intro ?_ (And.intro ?_ trivial))))))))))))
          · intro L a W hL hd hcl hJ K hK
            rw [hJd] at hJ
            obtain ⟨a68, c68, g73, g19, g20, hB⟩ := hJ
            have hn : a.tmps.size = 106 := hB.1.2.1
            have hgV : World.grows W7 W := World.grows.trans (grD grA) hB.2.1
            have e13 := hB.1.2.2 13 (by decide); have e13r := get_eval e13
            have hg5 := h5.trans hgV; have r13 := hgV.row_eq z13.1; have rc := hgV.row_eq zc.1; have rk := hgV.row_eq zk.1; have r15 := hgV.row_eq z15.1; rw [n13] at r13; rw [nc] at rc; rw [nk] at rk; rw [n15] at r15; have y13 := row_sz' r13; have yc := row_sz' rc; have yk := row_sz' rk; have y15 := row_sz' r15
            have HF := Lib.hid (And.intro hL (And.intro hd (And.intro hcl (And.intro hn hB))))
            clear hL hd hcl hn hB
            go_simp
            obtain ⟨hL, hd, hcl, hn, hf, hG, f0, f1, f2, f3, f4, f5, f6, f7, f8, f9, f10, f11, f12, d7_9, d7_10, d9_10⟩ := HF.out
            have hgw : W.grows W := World.grows.refl
            refine hK _ _ ?_
            rw [hJd]
            exact ⟨a68, c68, g73, g19, g20, (hf.put (by decide)), (hG.trans hgw), (fun _ => (iS hn rfl)), (iq rfl rfl f1), (ic rfl rfl f2 fun q => q.keep (fun g hS hl => ⟨hgw.row_eq hl, trivial, (fun h => hS.2.1 (iU rfl h)), (fun h => hS.2.2 (iU rfl h))⟩)), (iq rfl rfl f3), (iq rfl rfl f4), (iq rfl rfl f5), (iq rfl rfl f6), (ib rfl rfl f7 hgw), (iq rfl rfl f8), (ia rfl rfl (iU rfl) f9 hgw), (ia rfl rfl (iU rfl) f10 hgw), (iw rfl f11), (iw rfl f12), (id2 rfl rfl d7_9), (id2 rfl rfl d7_10), (id2 rfl rfl d9_10)⟩
          · intro L a W hL hd hcl hJ K hK
            rw [hJd] at hJ
            obtain ⟨a68, c68, g73, g19, g20, hB⟩ := hJ
            have hn : a.tmps.size = 106 := hB.1.2.1
            have hgV : World.grows W7 W := World.grows.trans (grD grA) hB.2.1
            have e6 := hB.1.2.2 6 (by decide); have e6r := get_eval e6
            have hg5 := h5.trans hgV; have r13 := hgV.row_eq z13.1; have rc := hgV.row_eq zc.1; have rk := hgV.row_eq zk.1; have r15 := hgV.row_eq z15.1; rw [n13] at r13; rw [nc] at rc; rw [nk] at rk; rw [n15] at r15; have y13 := row_sz' r13; have yc := row_sz' rc; have yk := row_sz' rk; have y15 := row_sz' r15
            have HF := Lib.hid (And.intro hL (And.intro hd (And.intro hcl (And.intro hn hB))))
            clear hL hd hcl hn hB
            go_simp
            obtain ⟨hL, hd, hcl, hn, hf, hG, f0, f1, f2, f3, f4, f5, f6, f7, f8, f9, f10, f11, f12, d7_9, d7_10, d9_10⟩ := HF.out
            have hgw : W.grows W := World.grows.refl
            refine hK _ _ ?_
            rw [hJd]
            exact ⟨a68, c68, g73, g19, g20, (hf.put (by decide)), (hG.trans hgw), (iq rfl rfl f0), (fun _ => (iS hn rfl)), (ic rfl rfl f2 fun q => q.keep (fun g hS hl => ⟨hgw.row_eq hl, trivial, (fun h => hS.2.1 (iU rfl h)), (fun h => hS.2.2 (iU rfl h))⟩)), (iq rfl rfl f3), (iq rfl rfl f4), (iq rfl rfl f5), (iq rfl rfl f6), (ib rfl rfl f7 hgw), (iq rfl rfl f8), (ia rfl rfl (iU rfl) f9 hgw), (ia rfl rfl (iU rfl) f10 hgw), (iw rfl f11), (iw rfl f12), (id2 rfl rfl d7_9), (id2 rfl rfl d7_10), (id2 rfl rfl d9_10)⟩
          · intro L a W hL hd hcl hJ K hK
            rw [hJd] at hJ
            obtain ⟨a68, c68, g73, g19, g20, hB⟩ := hJ
            have hn : a.tmps.size = 106 := hB.1.2.1
            have hgV : World.grows W7 W := World.grows.trans (grD grA) hB.2.1
            have p0 := hB.2.2.1 (hd 0 (by kernel_rfl))
            have p1 := hB.2.2.2.1 (hd 1 (by kernel_rfl))
            have p0r := get_eval p0
            have p1r := get_eval p1
            have hg5 := h5.trans hgV; have r13 := hgV.row_eq z13.1; have rc := hgV.row_eq zc.1; have rk := hgV.row_eq zk.1; have r15 := hgV.row_eq z15.1; rw [n13] at r13; rw [nc] at rc; rw [nk] at rk; rw [n15] at r15; have y13 := row_sz' r13; have yc := row_sz' rc; have yk := row_sz' rk; have y15 := row_sz' r15
            have HSX := Lib.hid (show ∀ g, W.heap.size ≤ g → (fun g => True ∧ (L 9 = true → g ≠ g19) ∧ (L 10 = true → g ≠ g20)) g from fun g hg => ⟨trivial, (fun h => Nat.ne_of_gt (Nat.lt_of_lt_of_le (hB.2.2.2.2.2.2.2.2.2.2.2.1 h).2.2.1 hg)), (fun h => Nat.ne_of_gt (Nat.lt_of_lt_of_le (hB.2.2.2.2.2.2.2.2.2.2.2.2.1 h).2.2.1 hg))⟩)
            have HSO := Lib.hid (show ∀ g, g < (W7).heap.size → (fun g => True ∧ (L 9 = true → g ≠ g19) ∧ (L 10 = true → g ≠ g20)) g from fun g hg => ⟨trivial, (fun h => Nat.ne_of_lt (Nat.lt_of_lt_of_le hg (hB.2.2.2.2.2.2.2.2.2.2.2.1 h).2.1)), (fun h => Nat.ne_of_lt (Nat.lt_of_lt_of_le hg (hB.2.2.2.2.2.2.2.2.2.2.2.2.1 h).2.1))⟩)
            have HF := Lib.hid (And.intro hL (And.intro hd (And.intro hcl (And.intro hn hB))))
            clear hL hd hcl hn hB
            go_simp
            (go_at_call 29; (with_reducible refine (K10.out W _ _ HSX.out (hkF.out.keep (fun g _ hl => ⟨hg5.row_eq hl, HSO.out g (Nat.lt_of_lt_of_le hl h5V)⟩))).mono ?_); rintro e w5 ⟨a7, c7, rfl, hg7, h77, h7b, h7s⟩)
            refine ⟨_, rfl, ?_⟩
            obtain ⟨hL, hd, hcl, hn, hf, hG, f0, f1, f2, f3, f4, f5, f6, f7, f8, f9, f10, f11, f12, d7_9, d7_10, d9_10⟩ := HF.out
            have hgw : W.grows w5 := hg7
            refine hK _ _ ?_
            rw [hJd]
            exact ⟨a7, c7, g73, g19, g20, (hf.put (by decide)), (hG.trans hgw), (iq rfl rfl f0), (iq rfl rfl f1), (fun _ => ⟨(iS hn rfl), (FormOk_of_parts h77 h7b h7s).keep (fun g hS _ => ⟨rfl, trivial, (fun h => hS.2.1 (iU rfl h)), (fun h => hS.2.2 (iU rfl h))⟩)⟩), (iq rfl rfl f3), (iq rfl rfl f4), (iq rfl rfl f5), (iq rfl rfl f6), (ib rfl rfl f7 hgw), (iq rfl rfl f8), (ia rfl rfl (iU rfl) f9 hgw), (ia rfl rfl (iU rfl) f10 hgw), (iw rfl f11), (iw rfl f12), (id2 rfl rfl d7_9), (id2 rfl rfl d7_10), (id2 rfl rfl d9_10)⟩
          · intro L a W hL hd hcl hJ K hK
            rw [hJd] at hJ
            obtain ⟨a68, c68, g73, g19, g20, hB⟩ := hJ
            have hn : a.tmps.size = 106 := hB.1.2.1
            have hgV : World.grows W7 W := World.grows.trans (grD grA) hB.2.1
            have e7 := hB.1.2.2 7 (by decide); have e7r := get_eval e7
            have hg5 := h5.trans hgV; have r13 := hgV.row_eq z13.1; have rc := hgV.row_eq zc.1; have rk := hgV.row_eq zk.1; have r15 := hgV.row_eq z15.1; rw [n13] at r13; rw [nc] at rc; rw [nk] at rk; rw [n15] at r15; have y13 := row_sz' r13; have yc := row_sz' rc; have yk := row_sz' rk; have y15 := row_sz' r15
            have HF := Lib.hid (And.intro hL (And.intro hd (And.intro hcl (And.intro hn hB))))
            clear hL hd hcl hn hB
            go_simp
            obtain ⟨hL, hd, hcl, hn, hf, hG, f0, f1, f2, f3, f4, f5, f6, f7, f8, f9, f10, f11, f12, d7_9, d7_10, d9_10⟩ := HF.out
            have hgw : W.grows W := World.grows.refl
            refine hK _ _ ?_
            rw [hJd]
            exact ⟨a68, c68, g73, g19, g20, (hf.put (by decide)), (hG.trans hgw), (iq rfl rfl f0), (iq rfl rfl f1), (ic rfl rfl f2 fun q => q.keep (fun g hS hl => ⟨hgw.row_eq hl, trivial, (fun h => hS.2.1 (iU rfl h)), (fun h => hS.2.2 (iU rfl h))⟩)), (fun _ => (iS hn rfl)), (iq rfl rfl f4), (iq rfl rfl f5), (iq rfl rfl f6), (ib rfl rfl f7 hgw), (iq rfl rfl f8), (ia rfl rfl (iU rfl) f9 hgw), (ia rfl rfl (iU rfl) f10 hgw), (iw rfl f11), (iw rfl f12), (id2 rfl rfl d7_9), (id2 rfl rfl d7_10), (id2 rfl rfl d9_10)⟩
          · intro L a W hL hd hcl hJ K hK
            rw [hJd] at hJ
            obtain ⟨a68, c68, g73, g19, g20, hB⟩ := hJ
            have hn : a.tmps.size = 106 := hB.1.2.1
            have hgV : World.grows W7 W := World.grows.trans (grD grA) hB.2.1
            obtain ⟨p2, pq2⟩ := hB.2.2.2.2.1 (hd 2 (by kernel_rfl))
            have p3 := hB.2.2.2.2.2.1 (hd 3 (by kernel_rfl))
            have p2r := get_eval p2
            have p3r := get_eval p3
            have hg5 := h5.trans hgV; have r13 := hgV.row_eq z13.1; have rc := hgV.row_eq zc.1; have rk := hgV.row_eq zk.1; have r15 := hgV.row_eq z15.1; rw [n13] at r13; rw [nc] at rc; rw [nk] at rk; rw [n15] at r15; have y13 := row_sz' r13; have yc := row_sz' rc; have yk := row_sz' rk; have y15 := row_sz' r15
            have HF := Lib.hid (And.intro hL (And.intro hd (And.intro hcl (And.intro hn hB))))
            clear hL hd hcl hn hB
            go_simp
            (go_at_call 40; (with_reducible refine (K8.out W _ (pq2.keep fun _ _ _ => ⟨rfl, trivial⟩)).mono ?_); rintro e w5 ⟨rfl, x5, rfl⟩)
            refine ⟨_, rfl, ?_⟩
            obtain ⟨hL, hd, hcl, hn, hf, hG, f0, f1, f2, f3, f4, f5, f6, f7, f8, f9, f10, f11, f12, d7_9, d7_10, d9_10⟩ := HF.out
            have hgw : W.grows (W.plus x5) := (World.grows.plus World.grows.refl _)
            refine hK _ _ ?_
            rw [hJd]
            exact ⟨a68, c68, g73, g19, g20, (hf.put (by decide)), (hG.trans hgw), (iq rfl rfl f0), (iq rfl rfl f1), (ic rfl rfl f2 fun q => q.keep (fun g hS hl => ⟨hgw.row_eq hl, trivial, (fun h => hS.2.1 (iU rfl h)), (fun h => hS.2.2 (iU rfl h))⟩)), (iq rfl rfl f3), (fun _ => (iS hn rfl)), (iq rfl rfl f5), (iq rfl rfl f6), (ib rfl rfl f7 hgw), (iq rfl rfl f8), (ia rfl rfl (iU rfl) f9 hgw), (ia rfl rfl (iU rfl) f10 hgw), (iw rfl f11), (iw rfl f12), (id2 rfl rfl d7_9), (id2 rfl rfl d7_10), (id2 rfl rfl d9_10)⟩
          · intro L a W hL hd hcl hJ K hK
            rw [hJd] at hJ
            obtain ⟨a68, c68, g73, g19, g20, hB⟩ := hJ
            have hn : a.tmps.size = 106 := hB.1.2.1
            have hgV : World.grows W7 W := World.grows.trans (grD grA) hB.2.1
            have e15 := hB.1.2.2 15 (by decide); have e15r := get_eval e15
            have hg5 := h5.trans hgV; have r13 := hgV.row_eq z13.1; have rc := hgV.row_eq zc.1; have rk := hgV.row_eq zk.1; have r15 := hgV.row_eq z15.1; rw [n13] at r13; rw [nc] at rc; rw [nk] at rk; rw [n15] at r15; have y13 := row_sz' r13; have yc := row_sz' rc; have yk := row_sz' rk; have y15 := row_sz' r15
            have HF := Lib.hid (And.intro hL (And.intro hd (And.intro hcl (And.intro hn hB))))
            clear hL hd hcl hn hB
            go_simp
            obtain ⟨hL, hd, hcl, hn, hf, hG, f0, f1, f2, f3, f4, f5, f6, f7, f8, f9, f10, f11, f12, d7_9, d7_10, d9_10⟩ := HF.out
            have hgw : W.grows W := World.grows.refl
            refine hK _ _ ?_
            rw [hJd]
            exact ⟨a68, c68, g73, g19, g20, (hf.put (by decide)), (hG.trans hgw), (iq rfl rfl f0), (iq rfl rfl f1), (ic rfl rfl f2 fun q => q.keep (fun g hS hl => ⟨hgw.row_eq hl, trivial, (fun h => hS.2.1 (iU rfl h)), (fun h => hS.2.2 (iU rfl h))⟩)), (iq rfl rfl f3), (iq rfl rfl f4), (fun _ => (iS hn rfl)), (iq rfl rfl f6), (ib rfl rfl f7 hgw), (iq rfl rfl f8), (ia rfl rfl (iU rfl) f9 hgw), (ia rfl rfl (iU rfl) f10 hgw), (iw rfl f11), (iw rfl f12), (id2 rfl rfl d7_9), (id2 rfl rfl d7_10), (id2 rfl rfl d9_10)⟩
          · intro L a W hL hd hcl hJ K hK
            rw [hJd] at hJ
            obtain ⟨a68, c68, g73, g19, g20, hB⟩ := hJ
            have hn : a.tmps.size = 106 := hB.1.2.1
            have hgV : World.grows W7 W := World.grows.trans (grD grA) hB.2.1
            have e6 := hB.1.2.2 6 (by decide); have e6r := get_eval e6
            have hg5 := h5.trans hgV; have r13 := hgV.row_eq z13.1; have rc := hgV.row_eq zc.1; have rk := hgV.row_eq zk.1; have r15 := hgV.row_eq z15.1; rw [n13] at r13; rw [nc] at rc; rw [nk] at rk; rw [n15] at r15; have y13 := row_sz' r13; have yc := row_sz' rc; have yk := row_sz' rk; have y15 := row_sz' r15
            have HF := Lib.hid (And.intro hL (And.intro hd (And.intro hcl (And.intro hn hB))))
            clear hL hd hcl hn hB
            go_simp
            obtain ⟨hL, hd, hcl, hn, hf, hG, f0, f1, f2, f3, f4, f5, f6, f7, f8, f9, f10, f11, f12, d7_9, d7_10, d9_10⟩ := HF.out
            have hgw : W.grows W := World.grows.refl
            refine hK _ _ ?_
            rw [hJd]
            exact ⟨a68, c68, g73, g19, g20, (hf.put (by decide)), (hG.trans hgw), (iq rfl rfl f0), (iq rfl rfl f1), (ic rfl rfl f2 fun q => q.keep (fun g hS hl => ⟨hgw.row_eq hl, trivial, (fun h => hS.2.1 (iU rfl h)), (fun h => hS.2.2 (iU rfl h))⟩)), (iq rfl rfl f3), (iq rfl rfl f4), (iq rfl rfl f5), (fun _ => (iS hn rfl)), (ib rfl rfl f7 hgw), (iq rfl rfl f8), (ia rfl rfl (iU rfl) f9 hgw), (ia rfl rfl (iU rfl) f10 hgw), (iw rfl f11), (iw rfl f12), (id2 rfl rfl d7_9), (id2 rfl rfl d7_10), (id2 rfl rfl d9_10)⟩
          · intro L a W hL hd hcl hJ K hK
            rw [hJd] at hJ
            obtain ⟨a68, c68, g73, g19, g20, hB⟩ := hJ
            have hn : a.tmps.size = 106 := hB.1.2.1
            have hgV : World.grows W7 W := World.grows.trans (grD grA) hB.2.1
            have p5 := hB.2.2.2.2.2.2.2.1 (hd 5 (by kernel_rfl))
            have p6 := hB.2.2.2.2.2.2.2.2.1 (hd 6 (by kernel_rfl))
            have p5r := get_eval p5; have p5q := get_some p5 (by rw [hn]; decide)
            have p6r := get_eval p6; have p6q := get_some p6 (by rw [hn]; decide)
            have HF := Lib.hid (And.intro hL (And.intro hd (And.intro hcl (And.intro hn hB))))
            clear hL hd hcl hn hB
            go_simp
            obtain ⟨hL, hd, hcl, hn, hf, hG, f0, f1, f2, f3, f4, f5, f6, f7, f8, f9, f10, f11, f12, d7_9, d7_10, d9_10⟩ := HF.out
            have hgA : ∀ o, W.grows (W.alloc o) := fun o => World.grows.alloc World.grows.refl o
            refine hK _ _ ?_
            rw [hJd]
            exact ⟨a68, c68, W.heap.size, g19, g20, (hf.put (by decide)), (hG.trans (hgA _)), (iq rfl rfl f0), (iq rfl rfl f1), (ic rfl rfl f2 fun q => q.keep (fun g hS hl => ⟨(hgA _).row_eq hl, trivial, (fun h => hS.2.1 (iU rfl h)), (fun h => hS.2.2 (iU rfl h))⟩)), (iq rfl rfl f3), (iq rfl rfl f4), (iq rfl rfl f5), (iq rfl rfl f6), (fun _ => ⟨(iS hn rfl), hG.below.size, (by rw [World.size_alloc]; exact Nat.lt_succ_self _), (by simp [go_sem])⟩), (iq rfl rfl f8), (ia rfl rfl (iU rfl) f9 (hgA _)), (ia rfl rfl (iU rfl) f10 (hgA _)), (iw rfl f11), (iw rfl f12), (fun h h2 => Ne.symm (Nat.ne_of_lt (f9 (iU rfl h2)).2.2.1)), (fun h h2 => Ne.symm (Nat.ne_of_lt (f10 (iU rfl h2)).2.2.1)), (id2 rfl rfl d9_10)⟩
          · intro L a W hL hd hcl hJ K hK
            rw [hJd] at hJ
            obtain ⟨a68, c68, g73, g19, g20, hB⟩ := hJ
            have hn : a.tmps.size = 106 := hB.1.2.1
            have hgV : World.grows W7 W := World.grows.trans (grD grA) hB.2.1
            have p4 := hB.2.2.2.2.2.2.1 (hd 4 (by kernel_rfl))
            obtain ⟨p7, pl7, ps7, pr7⟩ := hB.2.2.2.2.2.2.2.2.2.1 (hd 7 (by kernel_rfl)); have pz7 := row_sz' pr7
            have p7r := get_eval p7
            have hg5 := h5.trans hgV; have r13 := hgV.row_eq z13.1; have rc := hgV.row_eq zc.1; have rk := hgV.row_eq zk.1; have r15 := hgV.row_eq z15.1; rw [n13] at r13; rw [nc] at rc; rw [nk] at rk; rw [n15] at r15; have y13 := row_sz' r13; have yc := row_sz' rc; have yk := row_sz' rk; have y15 := row_sz' r15
            have HF := Lib.hid (And.intro hL (And.intro hd (And.intro hcl (And.intro hn hB))))
            clear hL hd hcl hn hB
            go_simp
            (go_at_call 44; (with_reducible refine (K12.out W g73 pr7).mono ?_); rintro e w5 ⟨rfl, x5, rfl⟩)
            refine ⟨_, rfl, ?_⟩
            obtain ⟨hL, hd, hcl, hn, hf, hG, f0, f1, f2, f3, f4, f5, f6, f7, f8, f9, f10, f11, f12, d7_9, d7_10, d9_10⟩ := HF.out
            have hgw : W.grows (W.plus x5) := (World.grows.plus World.grows.refl _)
            refine hK _ _ ?_
            rw [hJd]
            exact ⟨a68, c68, g73, g19, g20, (hf.put (by decide)), (hG.trans hgw), (iq rfl rfl f0), (iq rfl rfl f1), (ic rfl rfl f2 fun q => q.keep (fun g hS hl => ⟨hgw.row_eq hl, trivial, (fun h => hS.2.1 (iU rfl h)), (fun h => hS.2.2 (iU rfl h))⟩)), (iq rfl rfl f3), (iq rfl rfl f4), (iq rfl rfl f5), (iq rfl rfl f6), (ib rfl rfl f7 hgw), (fun _ => (iS hn rfl)), (ia rfl rfl (iU rfl) f9 hgw), (ia rfl rfl (iU rfl) f10 hgw), (iw rfl f11), (iw rfl f12), (id2 rfl rfl d7_9), (id2 rfl rfl d7_10), (id2 rfl rfl d9_10)⟩
          · intro L a W hL hd hcl hJ K hK
            rw [hJd] at hJ
            obtain ⟨a68, c68, g73, g19, g20, hB⟩ := hJ
            have hn : a.tmps.size = 106 := hB.1.2.1
            have hgV : World.grows W7 W := World.grows.trans (grD grA) hB.2.1
            have HF := Lib.hid (And.intro hL (And.intro hd (And.intro hcl (And.intro hn hB))))
            clear hL hd hcl hn hB
            go_simp
            obtain ⟨hL, hd, hcl, hn, hf, hG, f0, f1, f2, f3, f4, f5, f6, f7, f8, f9, f10, f11, f12, d7_9, d7_10, d9_10⟩ := HF.out
            have hgA : ∀ o, W.grows (W.alloc o) := fun o => World.grows.alloc World.grows.refl o
            refine hK _ _ ?_
            rw [hJd]
            exact ⟨a68, c68, g73, W.heap.size, g20, (hf.put (by decide)), (hG.trans (hgA _)), (iq rfl rfl f0), (iq rfl rfl f1), (ic rfl rfl f2 fun q => q.keep (fun g hS hl => ⟨(hgA _).row_eq hl, trivial, (fun _ => Nat.ne_of_lt hl), (fun h => hS.2.2 (iU rfl h))⟩)), (iq rfl rfl f3), (iq rfl rfl f4), (iq rfl rfl f5), (iq rfl rfl f6), (ib rfl rfl f7 (hgA _)), (iq rfl rfl f8), (fun _ => ⟨(iS hn rfl), hG.below.size, (by rw [World.size_alloc]; exact Nat.lt_succ_self _), _, (by rfl), (fun h => (absurd ((hcl 11 9 (by decide) (by kernel_rfl) (iU rfl h)).symm.trans hL) (by decide))), ((World.row_alloc ..).trans (if_pos rfl))⟩), (ia rfl rfl (iU rfl) f10 (hgA _)), (iw rfl f11), (iw rfl f12), (fun h h2 => id (Nat.ne_of_lt (f7 (iU rfl h)).2.2.1)), (id2 rfl rfl d7_10), (fun h h2 => Ne.symm (Nat.ne_of_lt (f10 (iU rfl h2)).2.2.1))⟩
          · intro L a W hL hd hcl hJ K hK
            rw [hJd] at hJ
            obtain ⟨a68, c68, g73, g19, g20, hB⟩ := hJ
            have hn : a.tmps.size = 106 := hB.1.2.1
            have hgV : World.grows W7 W := World.grows.trans (grD grA) hB.2.1
            have HF := Lib.hid (And.intro hL (And.intro hd (And.intro hcl (And.intro hn hB))))
            clear hL hd hcl hn hB
            go_simp
            obtain ⟨hL, hd, hcl, hn, hf, hG, f0, f1, f2, f3, f4, f5, f6, f7, f8, f9, f10, f11, f12, d7_9, d7_10, d9_10⟩ := HF.out
            have hgA : ∀ o, W.grows (W.alloc o) := fun o => World.grows.alloc World.grows.refl o
            refine hK _ _ ?_
            rw [hJd]
            exact ⟨a68, c68, g73, g19, W.heap.size, (hf.put (by decide)), (hG.trans (hgA _)), (iq rfl rfl f0), (iq rfl rfl f1), (ic rfl rfl f2 fun q => q.keep (fun g hS hl => ⟨(hgA _).row_eq hl, trivial, (fun h => hS.2.1 (iU rfl h)), (fun _ => Nat.ne_of_lt hl)⟩)), (iq rfl rfl f3), (iq rfl rfl f4), (iq rfl rfl f5), (iq rfl rfl f6), (ib rfl rfl f7 (hgA _)), (iq rfl rfl f8), (ia rfl rfl (iU rfl) f9 (hgA _)), (fun _ => ⟨(iS hn rfl), hG.below.size, (by rw [World.size_alloc]; exact Nat.lt_succ_self _), _, (by rfl), (fun h => (absurd ((hcl 12 10 (by decide) (by kernel_rfl) (iU rfl h)).symm.trans hL) (by decide))), ((World.row_alloc ..).trans (if_pos rfl))⟩), (iw rfl f11), (iw rfl f12), (id2 rfl rfl d7_9), (fun h h2 => id (Nat.ne_of_lt (f7 (iU rfl h)).2.2.1)), (fun h h2 => id (Nat.ne_of_lt (f9 (iU rfl h)).2.2.1))⟩
          · intro L a W hL hd hcl hJ K hK
            rw [hJd] at hJ
            obtain ⟨a68, c68, g73, g19, g20, hB⟩ := hJ
            have hn : a.tmps.size = 106 := hB.1.2.1
            have hgV : World.grows W7 W := World.grows.trans (grD grA) hB.2.1
            have p0 := hB.2.2.1 (hd 0 (by kernel_rfl))
            have p1 := hB.2.2.2.1 (hd 1 (by kernel_rfl))
            obtain ⟨p2, pq2⟩ := hB.2.2.2.2.1 (hd 2 (by kernel_rfl))
            have p3 := hB.2.2.2.2.2.1 (hd 3 (by kernel_rfl))
            have p4 := hB.2.2.2.2.2.2.1 (hd 4 (by kernel_rfl))
            have p8 := hB.2.2.2.2.2.2.2.2.2.2.1 (hd 8 (by kernel_rfl))
            obtain ⟨p9, pl9, ps9, pc9, pn9, pu9, pr9⟩ := hB.2.2.2.2.2.2.2.2.2.2.2.1 (hd 9 (by kernel_rfl)); have pz9 := row_sz' pr9; have po9 : rowOkW 2 (some (.cells pc9 23)) = true := beq_iff_eq.2 pn9
            obtain ⟨p10, pl10, ps10, pc10, pn10, pu10, pr10⟩ := hB.2.2.2.2.2.2.2.2.2.2.2.2.1 (hd 10 (by kernel_rfl)); have pz10 := row_sz' pr10; have po10 : rowOkW 2 (some (.cells pc10 23)) = true := beq_iff_eq.2 pn10
            have p9r := get_eval p9
            have p4r := get_eval p4
            have HF := Lib.hid (And.intro hL (And.intro hd (And.intro hcl (And.intro hn hB))))
            clear hL hd hcl hn hB
            go_simp
            obtain ⟨hL, hd, hcl, hn, hf, hG, f0, f1, f2, f3, f4, f5, f6, f7, f8, f9, f10, f11, f12, d7_9, d7_10, d9_10⟩ := HF.out
            refine hK _ _ ?_
            rw [hJd]
            exact ⟨a68, c68, g73, g19, g20, hf, (hG.setRow' (Nat.le_trans pl9 (Nat.le_refl _)) _), (iq0 rfl f0), (iq0 rfl f1), (ic0 rfl f2 fun q => q.keep (fun g hS hl => ⟨by rw [World.row_setRow, if_neg (hS.2.1 (hd 9 (by kernel_rfl)))], trivial, (fun h => hS.2.1 (iU rfl h)), (fun h => hS.2.2 (iU rfl h))⟩)), (iq0 rfl f3), (iq0 rfl f4), (iq0 rfl f5), (iq0 rfl f6), (ib0 rfl f7 (fun h => d7_9 (iU rfl h) (hd 9 (by kernel_rfl)))), (iq0 rfl f8), (fun _ => ⟨p9, pl9, (by rw [World.setRow_size']; exact ps9), _, (by first | rfl | (simp [go_sem]; done) | (simp [go_sem, *]; done)), (fun _ => rfl), (by rw [World.row_setRow, if_pos rfl, pr9]; first | done | rfl)⟩), (ia0 rfl rfl f10 (fun h => Ne.symm (d9_10 (hd 9 (by kernel_rfl)) (iU rfl h)))), (fun _ => upL_of (hd 9 (by kernel_rfl))), (iw rfl f12), (id2 rfl rfl d7_9), (id2 rfl rfl d7_10), (id2 rfl rfl d9_10)⟩
          · intro L a W hL hd hcl hJ K hK
            rw [hJd] at hJ
            obtain ⟨a68, c68, g73, g19, g20, hB⟩ := hJ
            have hn : a.tmps.size = 106 := hB.1.2.1
            have hgV : World.grows W7 W := World.grows.trans (grD grA) hB.2.1
            have p0 := hB.2.2.1 (hd 0 (by kernel_rfl))
            have p1 := hB.2.2.2.1 (hd 1 (by kernel_rfl))
            obtain ⟨p2, pq2⟩ := hB.2.2.2.2.1 (hd 2 (by kernel_rfl))
            have p3 := hB.2.2.2.2.2.1 (hd 3 (by kernel_rfl))
            have p4 := hB.2.2.2.2.2.2.1 (hd 4 (by kernel_rfl))
            have p5 := hB.2.2.2.2.2.2.2.1 (hd 5 (by kernel_rfl))
            have p6 := hB.2.2.2.2.2.2.2.2.1 (hd 6 (by kernel_rfl))
            obtain ⟨p7, pl7, ps7, pr7⟩ := hB.2.2.2.2.2.2.2.2.2.1 (hd 7 (by kernel_rfl)); have pz7 := row_sz' pr7
            have p8 := hB.2.2.2.2.2.2.2.2.2.2.1 (hd 8 (by kernel_rfl))
            obtain ⟨p9, pl9, ps9, pc9, pn9, pu9, pr9⟩ := hB.2.2.2.2.2.2.2.2.2.2.2.1 (hd 9 (by kernel_rfl)); have pz9 := row_sz' pr9; have po9 : rowOkW 2 (some (.cells pc9 23)) = true := beq_iff_eq.2 pn9
            obtain ⟨p10, pl10, ps10, pc10, pn10, pu10, pr10⟩ := hB.2.2.2.2.2.2.2.2.2.2.2.2.1 (hd 10 (by kernel_rfl)); have pz10 := row_sz' pr10; have po10 : rowOkW 2 (some (.cells pc10 23)) = true := beq_iff_eq.2 pn10
            have p10r := get_eval p10
            have p8r := get_eval p8
            have HF := Lib.hid (And.intro hL (And.intro hd (And.intro hcl (And.intro hn hB))))
            clear hL hd hcl hn hB
            go_simp
            obtain ⟨hL, hd, hcl, hn, hf, hG, f0, f1, f2, f3, f4, f5, f6, f7, f8, f9, f10, f11, f12, d7_9, d7_10, d9_10⟩ := HF.out
            refine hK _ _ ?_
            rw [hJd]
            exact ⟨a68, c68, g73, g19, g20, hf, (hG.setRow' (Nat.le_trans pl10 (Nat.le_refl _)) _), (iq0 rfl f0), (iq0 rfl f1), (ic0 rfl f2 fun q => q.keep (fun g hS hl => ⟨by rw [World.row_setRow, if_neg (hS.2.2 (hd 10 (by kernel_rfl)))], trivial, (fun h => hS.2.1 (iU rfl h)), (fun h => hS.2.2 (iU rfl h))⟩)), (iq0 rfl f3), (iq0 rfl f4), (iq0 rfl f5), (iq0 rfl f6), (ib0 rfl f7 (fun h => d7_10 (iU rfl h) (hd 10 (by kernel_rfl)))), (iq0 rfl f8), (ia0 rfl rfl f9 (fun h => d9_10 (iU rfl h) (hd 10 (by kernel_rfl)))), (fun _ => ⟨p10, pl10, (by rw [World.setRow_size']; exact ps10), _, (by first | rfl | (simp [go_sem]; done) | (simp [go_sem, *]; done)), (fun _ => rfl), (by rw [World.row_setRow, if_pos rfl, pr10]; first | done | rfl)⟩), (iw rfl f11), (fun _ => upL_of (hd 10 (by kernel_rfl))), (id2 rfl rfl d7_9), (id2 rfl rfl d7_10), (id2 rfl rfl d9_10)⟩
        · intro a W8 hJ
          rw [hJd] at hJ
          obtain ⟨a68, c68, g73, g19, g20, hf, hG, f0, f1, f2, f3, f4, f5, f6, f7, f8, f9, f10, f11, f12, d7_9, d7_10, d9_10⟩ := hJ
          clear hJd
          replace f0 := f0 rfl
          replace f1 := f1 rfl
          obtain ⟨f2, pq2⟩ := f2 rfl
          replace f3 := f3 rfl
          replace f4 := f4 rfl
          replace f5 := f5 rfl
          replace f6 := f6 rfl
          obtain ⟨f7, pl7, ps7, pr7⟩ := f7 rfl
          replace f8 := f8 rfl
          obtain ⟨f9, pl9, ps9, pc9, pn9, pu9, pr9⟩ := f9 rfl; obtain rfl := pu9 rfl
          obtain ⟨f10, pl10, ps10, pc10, pn10, pu10, pr10⟩ := f10 rfl; obtain rfl := pu10 rfl
          clear f11
          clear f12
          replace d7_9 := d7_9 rfl rfl
          replace d7_10 := d7_10 rfl rfl
          replace d9_10 := d9_10 rfl rfl
          have ha := hf.puts [66, 67, 68, 69, 70, 71, 72, 73, 74, 19, 20] _ (by intro d hd; show d < 106; revert d; decide)
          simp only [List.map_cons, List.map_nil, f0, f1, f2, f3, f4, f5, f6, f7, f8, f9, f10] at ha
          clear f0 f1 f2 f3 f4 f5 f6 f7 f8 f9 f10 hf
          subst ha
          have hgV : World.grows W7 W8 := World.grows.trans (by first | (exact World.grows.drew World.grows.refl; done) | (show World.grows _ _; repeat (with_reducible first | assumption | exact grA | apply grB | apply grC | apply grD | refine grE ?_ (by omega) _))) hG
          simp only [putL]
          go_simp
          have o17 := (hgV.row_eq z17.1).trans n17; have o18 := (hgV.row_eq z18.1).trans n18
          have hwW8 : w.grows W8 := hwW.trans (h5.trans hgV)
          clear pq2 d7_9 d7_10 d9_10 n13 nc nk n15 n17 n18 z13 zc zk z15 z17 z18 pn9 pn10 pl9 pl10 ps9 ps10 hG hgV pr7 pl7 ps7 h5 h5V hwW hkF hkG h67 K1 K2 K3 K4 K5 K6 K7 K8 K9 K10 K11 K12
          have z17 := row_sz' o17; have z18 := row_sz' o18; have z19 := row_sz' pr9; have z20 := row_sz' pr10
          go_upto_region 9 with fail
          have a1 := A1.out; have a2 := A2.out
          clear A1 A2
          have b1 : (X1 = Y1 ∧ X2 = Y2) ∨ (¬ (X1 = Y1 ∧ X2 = Y2) ∧ X2 = 0) ∨ (¬ (X1 = Y1 ∧ X2 = Y2) ∧ ¬ X2 = 0 ∧ Y2 = 0) := by
            unfold agr at a1
            simp only [Prod.mk.injEq] at a1
            by_cases h : X1 = Y1 ∧ X2 = Y2
            · exact .inl h
            · by_cases h2 : X2 = 0
              · exact .inr (.inl ⟨h, h2⟩)
              · rcases a1 with h3 | h3 | h3
                · exact absurd h3 h
                · exact absurd h3 h2
                · exact .inr (.inr ⟨h, h2, h3⟩)
          have b2 : (U1 = Z1 ∧ U2 = Z2) ∨ (¬ (U1 = Z1 ∧ U2 = Z2) ∧ U2 = 0) ∨ (¬ (U1 = Z1 ∧ U2 = Z2) ∧ ¬ U2 = 0 ∧ Z2 = 0) := by
            unfold agr at a2
            simp only [Prod.mk.injEq] at a2
            by_cases h : U1 = Z1 ∧ U2 = Z2
            · exact .inl h
            · by_cases h2 : U2 = 0
              · exact .inr (.inl ⟨h, h2⟩)
              · rcases a2 with h3 | h3 | h3
                · exact absurd h3 h
                · exact absurd h3 h2
                · exact .inr (.inr ⟨h, h2, h3⟩)
          clear a1 a2
          rcases b1 with ⟨rfl, rfl⟩ | ⟨hx, rfl⟩ | ⟨hx, hx2, rfl⟩
          all_goals rcases b2 with ⟨rfl, rfl⟩ | ⟨hu, rfl⟩ | ⟨hu, hu2, rfl⟩
          all_goals go_wp2_with (go_at_call 41; (with_reducible refine (awake13_any _).mono ?_); rintro e w1 ⟨rfl, x1, rfl⟩)
          all_goals go_ret
          all_goals exact ⟨rfl, (by repeat (with_reducible first | assumption | exact grA | apply grB | apply grC | apply grD | refine grE ?_ (by omega) _ | refine grF ?_ (by omega) _ _))⟩

/-- what the document's kind tells -/
theorem kind_cases (m : Nat) (t : Ex) (cs : List Value) (w : World) (h : ExAt w m t cs) : (askE m t 2 = 0 ∧ ∀ W, w.grows W → Calls Try.prog 17 #[.agg cs.toArray] W (Gives W (.tuple #[.int .i64 2, .int .i64 0]))) ∨
    (askE m t 2 ≠ 0 ∧ ∃ a b : Int, ((b != 0) = true ∧ (b == 0) = false ∨ b = 0 ∧ (a != 2) = true ∧ (a == 2) = false) ∧ ∀ W, w.grows W → Calls Try.prog 17 #[.agg cs.toArray] W (Gives W (.tuple #[.int .i64 a, .int .i64 b]))) := by
  have k := fun W (hW : w.grows W) => ref12Kind_any m t cs W (h.grows hW)
  have hA : askE m t 2 = if mayE m 340 t then (if kindE m t = 2 then 0 else 4) else 1 := rfl
  rw [hA]
  generalize mayE m 340 t = B at *
  generalize kindE m t = K at *
  cases B
  · refine .inr ⟨by simp, 0, 1, .inl ⟨rfl, rfl⟩, fun W hW => ?_⟩
    have := k W hW
    simpa using this
  · by_cases hK : K = 2
    · subst hK
      refine .inl ⟨by simp, fun W hW => ?_⟩
      have := k W hW
      simpa using this
    · refine .inr ⟨by simp [hK], ?_⟩
      by_cases hK0 : K = 0
      · subst hK0
        refine ⟨0, 4, .inl ⟨rfl, rfl⟩, fun W hW => ?_⟩
        have := k W hW
        simpa using this
      · refine ⟨K, 0, .inr ⟨rfl, by simpa using hK, by simpa using hK⟩, fun W hW => ?_⟩
        have := k W hW
        simpa [hK0] using this

set_option maxRecDepth 100000 in
set_option maxHeartbeats 8000000 in
theorem unitLinear_no (m n : Nat) (t u : Ex) (csa csb : List Value) (k1 k2 c1 c2 c3 c4 c5 c6 c7 c8 c9 c10 c11 c12 : Int) (w : World) (ha : ExAt w m t csa) (hb : ExAt w n u csb) (h0 : askE m t 2 ≠ 0 ∨ askE n u 2 ≠ 0) : Calls Try.prog 13 #[.agg csa.toArray, .agg csb.toArray, .agg #[.int .i64 k1, .int .i64 k2], .agg #[.int .i64 c1, .int .i64 c2, .int .i64 c3, .int .i64 c4, .int .i64 c5, .int .i64 c6, .int .i64 c7, .int .i64 c8, .int .i64 c9, .int .i64 c10, .int .i64 c11, .int .i64 c12]] w (Gives w (.bool true)) := by
  have ka := kind_cases m t csa w ha
  have kb := kind_cases n u csb w hb
  obtain ⟨v0, v1, v2, v3, va, vl, vc, rfl⟩ := ExAt_vals ha
  obtain ⟨u0, u1, u2, u3, ua, ul, uc, rfl⟩ := ExAt_vals hb
  rcases ka with ⟨ea, q1⟩ | ⟨_, a1, b1, hab, q1⟩
  · rcases kb with ⟨eb, q2⟩ | ⟨_, a2, b2, hab2, q2⟩
    · rcases h0 with h | h
      · exact absurd ea h
      · exact absurd eb h
    · have Q1 := Lib.hid q1; have Q2 := Lib.hid q2
      clear q1 q2 ha hb ea h0
      go_enter Try.func13, Try.ntmps13
      rcases hab2 with ⟨h1, h2⟩ | ⟨rfl, h1, h2⟩
      all_goals go_wp2_with (first | (go_at_call 17; (with_reducible refine (Q1.out _ (by repeat (with_reducible first | assumption | exact grA | apply grB | apply grC | apply grD | refine grE ?_ (by omega) _ | refine grF ?_ (by omega) _ _))).mono ?_); rintro e w1 ⟨rfl, x1, rfl⟩) | (go_at_call 17; (with_reducible refine (Q2.out _ (by repeat (with_reducible first | assumption | exact grA | apply grB | apply grC | apply grD | refine grE ?_ (by omega) _ | refine grF ?_ (by omega) _ _))).mono ?_); rintro e w2 ⟨rfl, x2, rfl⟩) | (go_at_call 41; (with_reducible refine (awake13_any _).mono ?_); rintro e w1 ⟨rfl, x1, rfl⟩))
      all_goals go_ret
      all_goals exact ⟨rfl, (by repeat (with_reducible first | assumption | exact grA | apply grB | apply grC | apply grD | refine grE ?_ (by omega) _ | refine grF ?_ (by omega) _ _))⟩
  · rcases kb with ⟨eb, q2⟩ | ⟨_, a2, b2, hab2, q2⟩
    · have Q1 := Lib.hid q1; have Q2 := Lib.hid q2
      clear q1 q2 ha hb eb h0
      go_enter Try.func13, Try.ntmps13
      rcases hab with ⟨h1, h2⟩ | ⟨rfl, h1, h2⟩
      all_goals go_wp2_with (first | (go_at_call 17; (with_reducible refine (Q1.out _ (by repeat (with_reducible first | assumption | exact grA | apply grB | apply grC | apply grD | refine grE ?_ (by omega) _ | refine grF ?_ (by omega) _ _))).mono ?_); rintro e w1 ⟨rfl, x1, rfl⟩) | (go_at_call 17; (with_reducible refine (Q2.out _ (by repeat (with_reducible first | assumption | exact grA | apply grB | apply grC | apply grD | refine grE ?_ (by omega) _ | refine grF ?_ (by omega) _ _))).mono ?_); rintro e w2 ⟨rfl, x2, rfl⟩) | (go_at_call 41; (with_reducible refine (awake13_any _).mono ?_); rintro e w1 ⟨rfl, x1, rfl⟩))
      all_goals go_ret
      all_goals exact ⟨rfl, (by repeat (with_reducible first | assumption | exact grA | apply grB | apply grC | apply grD | refine grE ?_ (by omega) _ | refine grF ?_ (by omega) _ _))⟩
    · have Q1 := Lib.hid q1; have Q2 := Lib.hid q2
      clear q1 q2 ha hb h0
      go_enter Try.func13, Try.ntmps13
      rcases hab with ⟨h1, h2⟩ | ⟨rfl, h1, h2⟩
      all_goals rcases hab2 with ⟨h3, h4⟩ | ⟨rfl, h3, h4⟩
      all_goals go_wp2_with (first | (go_at_call 17; (with_reducible refine (Q1.out _ (by repeat (with_reducible first | assumption | exact grA | apply grB | apply grC | apply grD | refine grE ?_ (by omega) _ | refine grF ?_ (by omega) _ _))).mono ?_); rintro e w1 ⟨rfl, x1, rfl⟩) | (go_at_call 17; (with_reducible refine (Q2.out _ (by repeat (with_reducible first | assumption | exact grA | apply grB | apply grC | apply grD | refine grE ?_ (by omega) _ | refine grF ?_ (by omega) _ _))).mono ?_); rintro e w2 ⟨rfl, x2, rfl⟩) | (go_at_call 41; (with_reducible refine (awake13_any _).mono ?_); rintro e w1 ⟨rfl, x1, rfl⟩))
      all_goals go_ret
      all_goals exact ⟨rfl, (by repeat (with_reducible first | assumption | exact grA | apply grB | apply grC | apply grD | refine grE ?_ (by omega) _ | refine grF ?_ (by omega) _ _))⟩
theorem unitLinear_law (m n : Nat) (t u : Ex) (csa csb : List Value) (k1 k2 c1 c2 c3 c4 c5 c6 c7 c8 c9 c10 c11 c12 : Int) (w : World) (ha : ExAt w m t csa) (hb : ExAt w n u csb) (hsz : szE m t + szE n u + 2 ≤ 1048576) (wk1 : I64 k1) (wk2 : I64 k2) (hcb : Cx.bd ⟨(c1, c2), (c3, c4), (c5, c6), (c7, c8), (c9, c10), (c11, c12)⟩) : Calls Try.prog 13 #[.agg csa.toArray, .agg csb.toArray, .agg #[.int .i64 k1, .int .i64 k2], .agg #[.int .i64 c1, .int .i64 c2, .int .i64 c3, .int .i64 c4, .int .i64 c5, .int .i64 c6, .int .i64 c7, .int .i64 c8, .int .i64 c9, .int .i64 c10, .int .i64 c11, .int .i64 c12]] w (Gives w (.bool true)) := by
  by_cases h0a : askE m t 2 = 0
  · by_cases h0b : askE n u 2 = 0
    · exact unitLinear_yes m n t u csa csb k1 k2 c1 c2 c3 c4 c5 c6 c7 c8 c9 c10 c11 c12 w ha hb hsz h0a h0b wk1 wk2 hcb
    · exact unitLinear_no m n t u csa csb k1 k2 c1 c2 c3 c4 c5 c6 c7 c8 c9 c10 c11 c12 w ha hb (.inr h0b)
  · exact unitLinear_no m n t u csa csb k1 k2 c1 c2 c3 c4 c5 c6 c7 c8 c9 c10 c11 c12 w ha hb (.inl h0a)

theorem unitLinear_own : ownKnob Try.prog.godebug = none := by kernel_rfl
theorem unitLinear_laidOut : laidOutB Try.prog = true := by kernel_rfl
set_option maxRecDepth 100000 in
set_option maxHeartbeats 2000000 in
theorem unitLinear_lifted (os : Os) (started : os.Started) (H : Type) (enc : TypeId × Value → H) (F : Stop.Interp) :
    ReturnsInHanded {} Try.checked os 13 .any ((Rows.OpenSpec.upto Rows.unitLinearSpec).pre6 enc Try.prog Try.f13 Rows.unitLinearUptoRow.domain false) (((Rows.OpenSpec.upto Rows.unitLinearSpec).at F).post enc Try.prog Try.f13 false true false false) := by
  refine returnsInHanded_of_cond (C := Try.checked) (s := Rows.OpenSpec.upto Rows.unitLinearSpec) (k := Rows.uptoSmall) rfl unitLinear_own started (by kernel_rfl) Try.func13
    (OpenSpec.witness (enc := enc) (C := Try.checked) (s := Rows.OpenSpec.upto Rows.unitLinearSpec) (k := Rows.uptoSmall) rfl false ⟨#[], #[.agg #[.int .i64 0, .int .i64 0, .int .i64 0, .int .i64 0, .slice none 0 0], .agg #[.int .i64 0, .int .i64 0, .int .i64 0, .int .i64 0, .slice none 0 0], .agg #[.int .i64 0, .int .i64 0], .agg #[.int .i64 0, .int .i64 0, .int .i64 0, .int .i64 0, .int .i64 0, .int .i64 0, .int .i64 0, .int .i64 0, .int .i64 0, .int .i64 0, .int .i64 0, .int .i64 0]], []⟩ 8 (by kernel_rfl) (by kernel_rfl) (by kernel_rfl)
      (x := ([.agg [.lit (.int .i64 0), .agg [.lit (.int .i64 0), .lit (.int .i64 0)], .lit (.int .i64 0), .nil], .agg [.lit (.int .i64 0), .agg [.lit (.int .i64 0), .lit (.int .i64 0)], .lit (.int .i64 0), .nil], .agg [.lit (.int .i64 0), .lit (.int .i64 0)], .agg [.agg [.lit (.int .i64 0), .lit (.int .i64 0)], .agg [.lit (.int .i64 0), .lit (.int .i64 0)], .agg [.lit (.int .i64 0), .lit (.int .i64 0)], .agg [.lit (.int .i64 0), .lit (.int .i64 0)], .agg [.lit (.int .i64 0), .lit (.int .i64 0)], .agg [.lit (.int .i64 0), .lit (.int .i64 0)]]], [], [])) (by kernel_rfl) rfl (by kernel_rfl)) ?_
  intro W base args ds gs before hval0 hW hcnd hk _
  have hval : ∀ (j : Nat) t v, Try.f13.params[j]? = some t → args[j]? = some v → Value.okWide Try.prog W .any base t v := hval0
  have hW' := hW
  obtain ⟨p, q, hA0, hV, rfl, hfz, hnd⟩ := hW
  have hA : DataW.TrodAll enc Try.prog W 0 (fun _ => true) true Try.f13.params.toList args.toList ds p := hA0
  rw [Try.params13] at hA hval
  obtain ⟨v0, vs0, d0, ds0, p0, q0, hargs, rfl, rfl, h0, r0⟩ := trodAll_cons hA
  obtain ⟨v1, vs1, d1, ds1, p1, q1, rfl, rfl, rfl, h1, r1⟩ := trodAll_cons r0
  obtain ⟨v2, vs2, d2, ds2, p2, q2, rfl, rfl, rfl, h2, r2⟩ := trodAll_cons r1
  obtain ⟨v3, vs3, d3, ds3, p3, q3, rfl, rfl, rfl, h3, r3⟩ := trodAll_cons r2
  obtain ⟨rfl, rfl, rfl⟩ := trodAll_nil r3
  obtain rfl : args = #[v0, v1, v2, v3] := by cases args; simp_all
  obtain ⟨rfl, rfl⟩ := trodVars_none hV
  have hbk := bulk_bound hk
  simp only [List.append_nil, Rows.uptoBulkAll] at hbk
  have k0 := h0
  have lt0 : ∀ x ∈ p0, x.block < W.heap.size := by obtain ⟨m, hm⟩ := k0; exact DataW.trod_lt m _ _ _ hm
  have k1 := h1
  have lt1 : ∀ x ∈ p1, x.block < W.heap.size := by obtain ⟨m, hm⟩ := k1; exact DataW.trod_lt m _ _ _ hm
  have k2 := h2
  have lt2 : ∀ x ∈ p2, x.block < W.heap.size := by obtain ⟨m, hm⟩ := k2; exact DataW.trod_lt m _ _ _ hm
  have k3 := h3
  have lt3 : ∀ x ∈ p3, x.block < W.heap.size := by obtain ⟨m, hm⟩ := k3; exact DataW.trod_lt m _ _ _ hm
  obtain ⟨m_E, t_E, cs_E, rfl, h_E, b_E⟩ := ex_arg (hval 0 26 v0 rfl rfl) h0
  obtain ⟨m_G, t_G, cs_G, rfl, h_G, b_G⟩ := ex_arg (hval 1 26 v1 rfl rfl) h1
  obtain ⟨K1, K2, rfl, w2_0, w2_1⟩ := rat_arg (hval 2 23 v2 rfl rfl) h2
  obtain ⟨C_1, C_2, C_3, C_4, C_5, C_6, C_7, C_8, C_9, C_10, C_11, C_12, rfl, w3_0, w3_1, w3_2, w3_3, w3_4, w3_5, w3_6, w3_7, w3_8, w3_9, w3_10, w3_11⟩ := ctx_arg (hval 3 58 v3 rfl rfl) h3
  clear hA0 hval0
  refine (unitLinear_law m_E m_G t_E t_G cs_E cs_G K1 K2 C_1 C_2 C_3 C_4 C_5 C_6 C_7 C_8 C_9 C_10 C_11 C_12 W h_E h_G (by omega) w2_0 w2_1 ⟨⟨w3_0, w3_1⟩, ⟨w3_2, w3_3⟩, ⟨w3_4, w3_5⟩, ⟨w3_6, w3_7⟩, ⟨w3_8, w3_9⟩, ⟨w3_10, w3_11⟩⟩).mono fun e W' ⟨he, grw⟩ => ?_
  subst he
  have bel := grw.below
  exact ⟨_, rfl, _, _, _, [], _, [], hW', trodAll_mk1 (shut_bool Try.underlying4 _), (trodAll_cons_mk (Below.trod unitLinear_laidOut (by kernel_rfl) (of_decide_eq_true (by kernel_rfl)) k0 bel lt0) (trodAll_cons_mk (Below.trod unitLinear_laidOut (by kernel_rfl) (of_decide_eq_true (by kernel_rfl)) k1 bel lt1) (trodAll_cons_mk (Below.trod unitLinear_laidOut (by kernel_rfl) (of_decide_eq_true (by kernel_rfl)) k2 bel lt2) (trodAll_cons_mk (Below.trod unitLinear_laidOut (by kernel_rfl) (of_decide_eq_true (by kernel_rfl)) k3 bel lt3) trodAll_mk0)))), rfl, bel.frame _, fun h => by cases h⟩

/-- THE STATEMENT -/
theorem unitLinear_holds : Rows.UnitLinearUptoSaid :=
  OpenClaim.holds_of_cond 13 Try.f13 rfl rfl rfl rfl rfl rfl rfl ⟨rfl, rfl, rfl, rfl, rfl⟩ rfl rfl rfl rfl rfl (by kernel_rfl) Try.func13 (by kernel_rfl)
    (of_decide_eq_true (by kernel_rfl)) (by unfold Func.isWrapper; first | (rw [if_pos (by decide +kernel)]; kernel_rfl) | (rw [if_neg (by decide +kernel)]; exact ⟨rfl, rfl⟩))
    (fun os started H enc _ F => unitLinear_lifted os started H enc F)
#print axioms unitLinear_holds
end Go.Proofs.Ythmicnjigfcljaa

/- WALKS over the document's answer: jalousieref12.Form: the form of an expression that is a length. No condition but that the expression stands in memory, that it may be, and that it has at most 2^20 nodes. (printed by wip/mkrform.py) -/
import Derived.Test.YthmicnjigfcljaaRFmScale
import Derived.Test.YthmicnjigfcljaaMo
import Derived.Test.YthmicnjigfcljaaMp
import Derived.Test.YthmicnjigfcljaaFig
import Derived.Test.YthmicnjigfcljaaMi
set_option linter.unusedSimpArgs false
set_option linter.unusedVariables false
namespace Go
open Go.RowKit
/-- three forms, side by side -/
theorem slAt_three {w : World} {S : Nat → Prop} {f f1 f2 : Fm} {v : Value} (h : SlAt w S 15 (FormOk w S) v [f, f1, f2]) : ∃ g off cap, v = .slice (some ⟨g, off, none⟩) 3 cap ∧ 3 ≤ cap ∧ cap ≤ 9223372036854775807 ∧ g < w.heap.size ∧
    ∃ us a n c us1 a1 n1 c1 us2 a2 n2 c2, us.length = 7 ∧ us1.length = 7 ∧ us2.length = 7 ∧ segOk off 15 (w.row g) = true ∧ segV off 15 (w.row g) = .agg (formC us (.slice a n c)).toArray ∧ segOk (off + 15) 15 (w.row g) = true ∧ segV (off + 15) 15 (w.row g) = .agg (formC us1 (.slice a1 n1 c1)).toArray ∧
      segOk (off + 30) 15 (w.row g) = true ∧ segV (off + 30) 15 (w.row g) = .agg (formC us2 (.slice a2 n2 c2)).toArray ∧ FormOk w S f (formC us (.slice a n c)) ∧ FormOk w S f1 (formC us1 (.slice a1 n1 c1)) ∧ FormOk w S f2 (formC us2 (.slice a2 n2 c2)) := by
  obtain ⟨a, cap, rfl, h2, h3, h4⟩ := h
  rcases h4 with h4 | ⟨g, off, rfl, hS, hc⟩
  · cases h4
  · obtain ⟨cs, e1, e2, e3⟩ := hc 0 f rfl
    obtain ⟨cs1, k1, k2, k3⟩ := hc 1 f1 rfl
    obtain ⟨cs2, m1, m2, m3⟩ := hc 2 f2 rfl
    simp only [Nat.zero_mul, Nat.add_zero] at e2
    rw [show off + 1 * 15 = off + 15 by omega] at k2
    rw [show off + 2 * 15 = off + 30 by omega] at m2
    have hlt := e2.lt
    obtain ⟨us, ps⟩ := f
    obtain ⟨us1, ps1⟩ := f1
    obtain ⟨us2, ps2⟩ := f2
    obtain ⟨p1, _, v', rfl, p3⟩ := FormOk_us e3
    obtain ⟨a', c', rfl, _⟩ := p3.len
    obtain ⟨r1, _, v1, rfl, r3⟩ := FormOk_us k3
    obtain ⟨a1, c1, rfl, _⟩ := r3.len
    obtain ⟨s1, _, v2, rfl, s3⟩ := FormOk_us m3
    obtain ⟨a2, c2, rfl, _⟩ := s3.len
    unfold eltAt at e2 k2 m2
    rw [e1] at e2
    rw [k1] at k2
    rw [m1] at m2
    exact ⟨g, off, cap, rfl, h2, h3, hlt, us, a', _, c', us1, a1, _, c1, us2, a2, _, c2, p1, r1, s1, e2.1, e2.2, k2.1, k2.2, m2.1, m2.2, e3, k3, m3⟩
theorem OwnAt.forms_set {W : World} {B : Nat} {e : TypeId} {T : Nat → Prop} {v : Value} {l : List Fm} (h : OwnAt W B e 15 (FormOk W T) v l) {o : Nat} {c : Array Value} (hT : ∀ g, T g → g ≠ o) (ho : o < B) : OwnAt (W.setRow o c) B e 15 (FormOk (W.setRow o c) T) v l := by
  obtain ⟨css, h1, h2, h3⟩ := h
  exact ⟨css, h1, fun i x cs hx hc => ⟨(h2 i x cs hx hc).1, (h2 i x cs hx hc).2.keep (fun g hg _ => ⟨by rw [World.row_setRow, if_neg (hT g hg)], hg⟩)⟩, h3.row_kept fun g hB _ => by rw [World.row_setRow, if_neg (by omega)]⟩
end Go
namespace Go.Proofs.Ythmicnjigfcljaa
open Go.RowKit

def RFormIH (m : Nat) : Prop := ∀ (t : Ex) (cs : List Value) (left : Nat) (w : World) (S : Nat → Prop), (∀ g, w.heap.size ≤ g → S g) → ExAt w m t cs → mayE m left t = true → left ≤ 340 → kindE m t = 2 → szE m t ≤ 1048576 →
    Calls Try.prog 20 #[.agg cs.toArray] w (FormP w S (formE m t))

set_option maxRecDepth 100000 in
set_option maxHeartbeats 8000000 in
theorem rform_k2 (m : Nat) (IH0 : RFormIH m) (kids : List Ex) (a : Option Addr) (cap left : Nat) (w : World) (S : Nat → Prop) (hS : ∀ g, w.heap.size ≤ g → S g) (hlc : kids.length ≤ cap) (hc : cap ≤ 9223372036854775807) (hkids : KidsAt w m kids a)
    (hmay : kids.all (mayE m left) = true) (hleft : left ≤ 340) (hkind : ∀ t ∈ kids, kindE m t = 2) (hsz : szE (m + 1) (.mk 2 0 0 0 kids) ≤ 1048576) (hok : 1 ≤ kids.length) :
    Calls Try.prog 20 #[.agg #[.int .i64 2, .int .i64 0, .int .i64 0, .int .i64 0, .slice a kids.length cap]] w (FormP w S (addF (kids.map (formE m)))) := by
  have hn : kids.length < 1048576 := Nat.lt_of_lt_of_le szE_kids hsz
  have hfsz : szM (kids.map (formE m)) ≤ 4194304 := by
    have h1 : (kids.map (fun t => szF (formE m t))).sum ≤ 4 * (kids.map (szE m)).sum := sum_le_mul kids fun t ht => szF_formE m left t (List.all_eq_true.1 hmay t ht)
    rw [szM_sum, List.map_map]
    rw [szE] at hsz
    have h2 : (kids.map (szF ∘ formE m)).sum = (kids.map (fun t => szF (formE m t))).sum := rfl
    omega
  have IH1 : ∀ i (hlt : i < kids.length) cs' W T, (∀ g, W.heap.size ≤ g → T g) → ExAt W m kids[i] cs' → Calls Try.prog 20 #[.agg cs'.toArray] W (FormP W T (formE m kids[i])) :=
    fun i hlt cs' W T hT h => IH0 _ _ left _ T hT h (List.all_eq_true.1 hmay _ (List.getElem_mem hlt)) hleft (hkind _ (List.getElem_mem hlt)) (Nat.le_of_lt (Nat.lt_of_lt_of_le (szE_kid (List.getElem_mem hlt)) hsz))
  have IH2 : ∀ i (hlt : i < kids.length) cs' W, ExAt W m kids[i] cs' → Calls Try.prog 54 #[.agg cs'.toArray] W (Gives W (.int .i64 2)) := fun i hlt cs' W h => by
    have := refKind_any m _ cs' W h
    rw [hkind _ (List.getElem_mem hlt)] at this; exact this
  have hFM : ∀ f ∈ kids.map (formE m), mayUF f := fun f hf => by
    obtain ⟨t, ht, rfl⟩ := List.mem_map.1 hf
    exact formE_may m left t (List.all_eq_true.1 hmay t ht)
  clear hsz hkind hmay IH0 hok
  generalize formE m = V at *
  have IH := Lib.hid IH1; have IHK := Lib.hid IH2; have HK := Lib.hid hkids; have HFZ := Lib.hid hfsz; have HS := Lib.hid hS; have HFM := Lib.hid hFM; clear IH1 IH2 hkids hfsz hS hFM
  go_enter Try.func20, Try.ntmps20
  go_wp2_with (first | (go_at_call 56; (with_reducible refine (refIntL_any _ _).mono ?_); rintro e w1 ⟨rfl, x1, rfl⟩))
  generalize ho : w.heap.size + 1 + 1 + x1.bs.size = o
  have ho1 : w.heap.size + 1 < o := by omega
  have ne1 : (w.heap.size = o) = False := by apply eq_false; omega
  have ne2 : (o = w.heap.size) = False := by apply eq_false; omega
  have ne3 : (w.heap.size + 1 = o) = False := by apply eq_false; omega
  have ne4 : (o = w.heap.size + 1) = False := by apply eq_false; omega
  obtain ⟨S1, hS1⟩ : ∃ S1 : Nat → Prop, ∀ g, S1 g ↔ (S g ∧ g ≠ w.heap.size + 1 ∧ g ≠ o) := ⟨_, fun _ => Iff.rfl⟩
  have hSn : ∀ g, o + 1 ≤ g → S1 g := fun g h => (hS1 g).2 ⟨HS.out g (by omega), by omega, by omega⟩
  have hSd : ∀ g, S1 g → S g ∧ g ≠ w.heap.size + 1 ∧ g ≠ o := fun g h => (hS1 g).1 h
  have HSN := Lib.hid hSn; have HSD := Lib.hid hSd; clear hS1 hSn hSd HS
  go_loopg [3, 12] kids.length (fun gn v3 v12 wj => ∃ i : Nat, Hid (gn + i = kids.length) ∧ i ≤ kids.length ∧ v12 = .int .i64 i ∧ w.grows wj ∧ wj.row w.heap.size = some (.cells #[.int .i64 2, .int .i64 0, .int .i64 0, .int .i64 0, .slice a kids.length cap] 26) ∧
    wj.row (w.heap.size + 1) = some (.cells (formC (zs 0) (.slice none 0 0)).toArray 30) ∧ wj.row o = some (.cells #[.int .i64 1, .int .i64 1] 23) ∧ Hid (OwnAt wj (o + 1) 30 15 (FormOk wj (exS S1 v3)) v3 ((kids.take i).map V)))
  case atStart => exact ⟨0, rfl, Nat.zero_le _, rfl, (by repeat (with_reducible first | assumption | exact grA | apply grB | apply grC | apply grD | refine grE ?_ (by omega) _ | refine grF ?_ (by omega) _ _)), by simp [go_sem, ho, ne1, ne2, ne3, ne4], by simp [go_sem, ho, ne1, ne2, ne3, ne4]; rfl, by simp [go_sem, ho, ne1, ne2, ne3, ne4], OwnAt_nil _ _ _ _ _⟩
  case round =>
    obtain ⟨i, HGN, hi, rfl, hg, hx, hy, hz, HW⟩ := hrel
    have z1 := row_sz' hx; have z2 := row_sz' hy; have z3 := row_sz' hz
    by_cases hlt : i < kids.length
    · rcases HK.out with h | ⟨g, off, rfl, hcell⟩
      · rw [h] at hlt; cases hlt
      obtain ⟨cs', hel, hex⟩ := hcell i kids[i] (by simp [hlt])
      have hl5 := ExAt_len hex
      have he := hel.grows hg
      unfold eltAt at he
      rw [hl5] at he
      have zr := lt_sz (hel.grows hg).lt
      have e3 : segOk (off + i * 5) 5 (wr.row g) = true := he.1
      have e4 : segV (off + i * 5) 5 (wr.row g) = .agg cs'.toArray := he.2
      have ck : ∀ W, w.grows W → Calls Try.prog 54 #[.agg cs'.toArray] W (Gives W (.int .i64 2)) := fun W hW => IHK.out i hlt cs' W (hex.grows hW)
      have c1 : ∀ W, wr.grows W → Calls Try.prog 20 #[.agg cs'.toArray] W (FormP W (exS S1 u3) (V kids[i])) := fun W hW => by
        have hs1 := hW.below.size
        refine IH.out i hlt cs' W _ (fun g hg0 => ⟨HSN.out g (by have := z3.1; omega), fun e => ?_⟩) (hex.grows (hg.trans hW))
        have := (HW.out.lt e).2; omega
      have htk : (kids.take (i + 1)).map V = (kids.take i).map V ++ [V kids[i]] := by
        rw [List.take_succ_eq_append_getElem hlt, List.map_append]; rfl
      obtain ⟨css, p1, p2, p3⟩ := HW.out
      have hli : ((kids.take i).map V).length = i := by rw [List.length_map, List.length_take, Nat.min_eq_left (Nat.le_of_lt hlt)]
      rw [hli] at p3
      have hbs : o + 1 ≤ wr.heap.size := z3.1
      obtain ⟨k0, k1, k2, k3, va, vl, vc, rfl⟩ := ExAt_vals hex
      generalize V kids[i] = F at *
      have CK := Lib.hid ck; have C1 := Lib.hid c1; have HTK := Lib.hid htk; have P1 := Lib.hid p1; have P2 := Lib.hid p2; have P3 := Lib.hid p3; have HLI := Lib.hid hli
      clear ck c1 hel he hex hl5 hcell HK htk p1 p2 p3 hli
      go_wp2_with (first | (go_at_call 54; (with_reducible refine (CK.out _ (by repeat (with_reducible first | assumption | exact grA | apply grB | apply grC | apply grD | refine grE ?_ (by omega) _ | refine grF ?_ (by omega) _ _))).mono ?_); rintro e w1 ⟨rfl, x1, rfl⟩) | (go_at_call 20; (with_reducible refine (C1.out _ (by repeat (with_reducible first | assumption | exact grA | apply grB | apply grC | apply grD | refine grE ?_ (by omega) _ | refine grF ?_ (by omega) _ _))).mono ?_); rintro e w1 ⟨a5, c5, rfl, hg5, h57, h5b, h5s⟩; have hrw1 : wr.grows w1 := World.grows.trans (by repeat (with_reducible first | assumption | exact grA | apply grB | apply grC | apply grD | refine grE ?_ (by omega) _ | refine grF ?_ (by omega) _ _)) hg5; have hgw1 : w.grows w1 := World.grows.trans hg hrw1; have hs9 := hrw1.below.size; have q1 := (hrw1.row_eq z1.1).trans hx; have q2 := (hrw1.row_eq z2.1).trans hy; have q4 := (hrw1.row_eq z3.1).trans hz; have t1 := row_sz' q1; have t2 := row_sz' q2; have t4 := row_sz' q4; have H5B := Lib.hid h5b; have H5S := Lib.hid h5s; clear h5b h5s hg5) | (at_builtin; refine wpList_app w (o + 1) rfl (.tmp 19) (.tmp 22) _ rfl 30 (.agg #[.int .i64 0, .int .i64 0, .int .i64 0, .int .i64 0, .int .i64 0, .int .i64 0, .int .i64 0, .int .i64 0, .int .i64 0, .int .i64 0, .int .i64 0, .int .i64 0, .int .i64 0, .int .i64 0, .slice none 0 0]) 15 136 Try.underlying49 (by kernel_rfl) rfl (by omega) (by omega) _ i _ rfl (P3.out.grows (by repeat (with_reducible first | assumption | exact grA | apply grB | apply grC | apply grD | refine grE ?_ (by omega) _ | refine grF ?_ (by omega) _ _))) _ 1 _ (formC F.us (.slice a5 F.ps.length c5)) rfl (formC_len _ h57) (cells_of_row (e := 30) (fr := (0, 0)) (by simp [go_sem])) (fun u hu => List.all_eq_true.1 (formC_one rfl) u hu) (by omega) (by repeat (with_reducible first | assumption | exact grA | apply grB | apply grC | apply grD | refine grE ?_ (by omega) _ | refine grF ?_ (by omega) _ _)) (by omega) (by simp; omega) ?_; intro v' w' hg' HO' HR' HG' HA'))
      go_wp2_with fail
      go_roundg (kids.length - (i + 1))
      case rel =>
        refine ⟨i + 1, Lib.hid (by omega), by omega, by go_num, hg', (HR'.out _ (by omega)).trans (by simp [go_sem, q1, t1]), (HR'.out _ (by omega)).trans (by simp [go_sem, q2, t2]), (HR'.out _ (by omega)).trans (by simp [go_sem, q4, t4]), Lib.hid ?_⟩
        rw [HTK.out]
        refine forms_append P1.out (fun i x cs hx hc => ⟨(P2.out i x cs hx hc).1, (P2.out i x cs hx hc).2.grows (hrw1.trans (World.grows.alloc World.grows.refl _))⟩) ((FormOk_of_parts h57 H5B.out H5S.out).grows (World.grows.alloc World.grows.refl _)) ?_ HG'.out HA'.out
        rw [HLI.out]
        exact HO'.out
      case measure => have := HGN.out; omega
    · obtain rfl : i = kids.length := by omega
      have hW := HW.out
      rw [List.take_length] at hW
      have hll : (kids.map V).length ≤ 4194304 := by rw [List.length_map]; omega
      have hfl : ((kids.map V).flatMap Fm.ps).length ≤ 33554432 := by
        have h1 := szP_flat (kids.map V)
        have h2 := szP_len ((kids.map V).flatMap Fm.ps)
        have h3 := HFZ.out
        omega
      have c1 : ∀ W, wr.grows W → Calls Try.prog 35 #[u3] W (FormP W S1 (addF (kids.map V))) := fun W hWg => by
        have hs1 := hWg.below.size
        have hnew : ∀ g, W.heap.size ≤ g → S1 g := fun g hg0 => HSN.out g (by have := z3.1; omega)
        have hsl : SlAt W S1 15 (FormOk W S1) u3 (kids.map V) := (hW.forms_mono hWg (T' := S1) (fun g h _ => h.1)).slAt (by omega) (fun g hg0 => HSN.out g (by have := (hW.lt hg0).1; omega))
        exact refAddF_any _ _ W _ hnew hsl HFM.out hll hfl
      generalize addF (kids.map V) = F at *
      have C1 := Lib.hid c1
      clear c1 hW hll hfl HW
      go_wp2_with (first | (go_at_call 35; (with_reducible refine (C1.out _ (by repeat (with_reducible first | assumption | exact grA | apply grB | apply grC | apply grD | refine grE ?_ (by omega) _ | refine grF ?_ (by omega) _ _))).mono ?_); rintro e w1 ⟨a5, c5, rfl, hg5, h57, h5b, h5s⟩; have hrw1 : wr.grows w1 := World.grows.trans (by repeat (with_reducible first | assumption | exact grA | apply grB | apply grC | apply grD | refine grE ?_ (by omega) _ | refine grF ?_ (by omega) _ _)) hg5; have hgw1 : w.grows w1 := World.grows.trans hg hrw1; have hs9 := hrw1.below.size; have q1 := (hrw1.row_eq z1.1).trans hx; have q2 := (hrw1.row_eq z2.1).trans hy; have q4 := (hrw1.row_eq z3.1).trans hz; have t1 := row_sz' q1; have t2 := row_sz' q2; have t4 := row_sz' q4; have H5B := Lib.hid h5b; have H5S := Lib.hid h5s; clear h5b h5s hg5))
      (with_reducible show bodyPost _ _ _ _ _ _); exact ret_30 rfl rfl (by simp [go_sem, q2, t2, h57]) rfl ⟨a5, c5, (by simp [go_sem, q2, t2, h57]), (by repeat (with_reducible first | assumption | exact grA | apply grB | apply grC | apply grD | refine grE ?_ (by omega) _ | refine grF ?_ (by omega) _ _)), h57, H5B.out, formS_keep H5S.out (fun g h => ⟨by rw [World.row_setRow, if_neg (HSD.out g h).2.1], (HSD.out g h).1⟩)⟩

set_option maxRecDepth 100000 in
set_option maxHeartbeats 8000000 in
theorem rform_k6 (m : Nat) (IH0 : RFormIH m) (kids : List Ex) (a : Option Addr) (cap left : Nat) (w : World) (S : Nat → Prop) (hS : ∀ g, w.heap.size ≤ g → S g) (hlc : kids.length ≤ cap) (hc : cap ≤ 9223372036854775807) (hkids : KidsAt w m kids a)
    (hmay : kids.all (mayE m left) = true) (hleft : left ≤ 340) (hkind : ∀ t ∈ kids, kindE m t = 2) (hsz : szE (m + 1) (.mk 6 0 0 0 kids) ≤ 1048576) (hok : 1 ≤ kids.length) :
    Calls Try.prog 20 #[.agg #[.int .i64 6, .int .i64 0, .int .i64 0, .int .i64 0, .slice a kids.length cap]] w (FormP w S (pickF false (kids.map (formE m)))) := by
  have hn : kids.length < 1048576 := Nat.lt_of_lt_of_le szE_kids hsz
  have hfsz : szM (kids.map (formE m)) ≤ 4194304 := by
    have h1 : (kids.map (fun t => szF (formE m t))).sum ≤ 4 * (kids.map (szE m)).sum := sum_le_mul kids fun t ht => szF_formE m left t (List.all_eq_true.1 hmay t ht)
    rw [szM_sum, List.map_map]
    rw [szE] at hsz
    have h2 : (kids.map (szF ∘ formE m)).sum = (kids.map (fun t => szF (formE m t))).sum := rfl
    omega
  have IH1 : ∀ i (hlt : i < kids.length) cs' W T, (∀ g, W.heap.size ≤ g → T g) → ExAt W m kids[i] cs' → Calls Try.prog 20 #[.agg cs'.toArray] W (FormP W T (formE m kids[i])) :=
    fun i hlt cs' W T hT h => IH0 _ _ left _ T hT h (List.all_eq_true.1 hmay _ (List.getElem_mem hlt)) hleft (hkind _ (List.getElem_mem hlt)) (Nat.le_of_lt (Nat.lt_of_lt_of_le (szE_kid (List.getElem_mem hlt)) hsz))
  have IH2 : ∀ i (hlt : i < kids.length) cs' W, ExAt W m kids[i] cs' → Calls Try.prog 54 #[.agg cs'.toArray] W (Gives W (.int .i64 2)) := fun i hlt cs' W h => by
    have := refKind_any m _ cs' W h
    rw [hkind _ (List.getElem_mem hlt)] at this; exact this
  have hFM : ∀ f ∈ kids.map (formE m), mayUF f := fun f hf => by
    obtain ⟨t, ht, rfl⟩ := List.mem_map.1 hf
    exact formE_may m left t (List.all_eq_true.1 hmay t ht)
  clear hsz hkind hmay IH0 hok
  generalize formE m = V at *
  have IH := Lib.hid IH1; have IHK := Lib.hid IH2; have HK := Lib.hid hkids; have HFZ := Lib.hid hfsz; have HS := Lib.hid hS; have HFM := Lib.hid hFM; clear IH1 IH2 hkids hfsz hS hFM
  go_enter Try.func20, Try.ntmps20
  go_wp2_with (first | (go_at_call 56; (with_reducible refine (refIntL_any _ _).mono ?_); rintro e w1 ⟨rfl, x1, rfl⟩))
  generalize ho : w.heap.size + 1 + 1 + x1.bs.size = o
  have ho1 : w.heap.size + 1 < o := by omega
  have ne1 : (w.heap.size = o) = False := by apply eq_false; omega
  have ne2 : (o = w.heap.size) = False := by apply eq_false; omega
  have ne3 : (w.heap.size + 1 = o) = False := by apply eq_false; omega
  have ne4 : (o = w.heap.size + 1) = False := by apply eq_false; omega
  obtain ⟨S1, hS1⟩ : ∃ S1 : Nat → Prop, ∀ g, S1 g ↔ (S g ∧ g ≠ w.heap.size + 1 ∧ g ≠ o) := ⟨_, fun _ => Iff.rfl⟩
  have hSn : ∀ g, o + 1 ≤ g → S1 g := fun g h => (hS1 g).2 ⟨HS.out g (by omega), by omega, by omega⟩
  have hSd : ∀ g, S1 g → S g ∧ g ≠ w.heap.size + 1 ∧ g ≠ o := fun g h => (hS1 g).1 h
  have HSN := Lib.hid hSn; have HSD := Lib.hid hSd; clear hS1 hSn hSd HS
  go_loopg [3, 12] kids.length (fun gn v3 v12 wj => ∃ i : Nat, Hid (gn + i = kids.length) ∧ i ≤ kids.length ∧ v12 = .int .i64 i ∧ w.grows wj ∧ wj.row w.heap.size = some (.cells #[.int .i64 6, .int .i64 0, .int .i64 0, .int .i64 0, .slice a kids.length cap] 26) ∧
    wj.row (w.heap.size + 1) = some (.cells (formC (zs 0) (.slice none 0 0)).toArray 30) ∧ wj.row o = some (.cells #[.int .i64 1, .int .i64 1] 23) ∧ Hid (OwnAt wj (o + 1) 30 15 (FormOk wj (exS S1 v3)) v3 ((kids.take i).map V)))
  case atStart => exact ⟨0, rfl, Nat.zero_le _, rfl, (by repeat (with_reducible first | assumption | exact grA | apply grB | apply grC | apply grD | refine grE ?_ (by omega) _ | refine grF ?_ (by omega) _ _)), by simp [go_sem, ho, ne1, ne2, ne3, ne4], by simp [go_sem, ho, ne1, ne2, ne3, ne4]; rfl, by simp [go_sem, ho, ne1, ne2, ne3, ne4], OwnAt_nil _ _ _ _ _⟩
  case round =>
    obtain ⟨i, HGN, hi, rfl, hg, hx, hy, hz, HW⟩ := hrel
    have z1 := row_sz' hx; have z2 := row_sz' hy; have z3 := row_sz' hz
    by_cases hlt : i < kids.length
    · rcases HK.out with h | ⟨g, off, rfl, hcell⟩
      · rw [h] at hlt; cases hlt
      obtain ⟨cs', hel, hex⟩ := hcell i kids[i] (by simp [hlt])
      have hl5 := ExAt_len hex
      have he := hel.grows hg
      unfold eltAt at he
      rw [hl5] at he
      have zr := lt_sz (hel.grows hg).lt
      have e3 : segOk (off + i * 5) 5 (wr.row g) = true := he.1
      have e4 : segV (off + i * 5) 5 (wr.row g) = .agg cs'.toArray := he.2
      have ck : ∀ W, w.grows W → Calls Try.prog 54 #[.agg cs'.toArray] W (Gives W (.int .i64 2)) := fun W hW => IHK.out i hlt cs' W (hex.grows hW)
      have c1 : ∀ W, wr.grows W → Calls Try.prog 20 #[.agg cs'.toArray] W (FormP W (exS S1 u3) (V kids[i])) := fun W hW => by
        have hs1 := hW.below.size
        refine IH.out i hlt cs' W _ (fun g hg0 => ⟨HSN.out g (by have := z3.1; omega), fun e => ?_⟩) (hex.grows (hg.trans hW))
        have := (HW.out.lt e).2; omega
      have htk : (kids.take (i + 1)).map V = (kids.take i).map V ++ [V kids[i]] := by
        rw [List.take_succ_eq_append_getElem hlt, List.map_append]; rfl
      obtain ⟨css, p1, p2, p3⟩ := HW.out
      have hli : ((kids.take i).map V).length = i := by rw [List.length_map, List.length_take, Nat.min_eq_left (Nat.le_of_lt hlt)]
      rw [hli] at p3
      have hbs : o + 1 ≤ wr.heap.size := z3.1
      obtain ⟨k0, k1, k2, k3, va, vl, vc, rfl⟩ := ExAt_vals hex
      generalize V kids[i] = F at *
      have CK := Lib.hid ck; have C1 := Lib.hid c1; have HTK := Lib.hid htk; have P1 := Lib.hid p1; have P2 := Lib.hid p2; have P3 := Lib.hid p3; have HLI := Lib.hid hli
      clear ck c1 hel he hex hl5 hcell HK htk p1 p2 p3 hli
      go_wp2_with (first | (go_at_call 54; (with_reducible refine (CK.out _ (by repeat (with_reducible first | assumption | exact grA | apply grB | apply grC | apply grD | refine grE ?_ (by omega) _ | refine grF ?_ (by omega) _ _))).mono ?_); rintro e w1 ⟨rfl, x1, rfl⟩) | (go_at_call 20; (with_reducible refine (C1.out _ (by repeat (with_reducible first | assumption | exact grA | apply grB | apply grC | apply grD | refine grE ?_ (by omega) _ | refine grF ?_ (by omega) _ _))).mono ?_); rintro e w1 ⟨a5, c5, rfl, hg5, h57, h5b, h5s⟩; have hrw1 : wr.grows w1 := World.grows.trans (by repeat (with_reducible first | assumption | exact grA | apply grB | apply grC | apply grD | refine grE ?_ (by omega) _ | refine grF ?_ (by omega) _ _)) hg5; have hgw1 : w.grows w1 := World.grows.trans hg hrw1; have hs9 := hrw1.below.size; have q1 := (hrw1.row_eq z1.1).trans hx; have q2 := (hrw1.row_eq z2.1).trans hy; have q4 := (hrw1.row_eq z3.1).trans hz; have t1 := row_sz' q1; have t2 := row_sz' q2; have t4 := row_sz' q4; have H5B := Lib.hid h5b; have H5S := Lib.hid h5s; clear h5b h5s hg5) | (at_builtin; refine wpList_app w (o + 1) rfl (.tmp 19) (.tmp 22) _ rfl 30 (.agg #[.int .i64 0, .int .i64 0, .int .i64 0, .int .i64 0, .int .i64 0, .int .i64 0, .int .i64 0, .int .i64 0, .int .i64 0, .int .i64 0, .int .i64 0, .int .i64 0, .int .i64 0, .int .i64 0, .slice none 0 0]) 15 136 Try.underlying49 (by kernel_rfl) rfl (by omega) (by omega) _ i _ rfl (P3.out.grows (by repeat (with_reducible first | assumption | exact grA | apply grB | apply grC | apply grD | refine grE ?_ (by omega) _ | refine grF ?_ (by omega) _ _))) _ 1 _ (formC F.us (.slice a5 F.ps.length c5)) rfl (formC_len _ h57) (cells_of_row (e := 30) (fr := (0, 0)) (by simp [go_sem])) (fun u hu => List.all_eq_true.1 (formC_one rfl) u hu) (by omega) (by repeat (with_reducible first | assumption | exact grA | apply grB | apply grC | apply grD | refine grE ?_ (by omega) _ | refine grF ?_ (by omega) _ _)) (by omega) (by simp; omega) ?_; intro v' w' hg' HO' HR' HG' HA'))
      go_wp2_with fail
      go_roundg (kids.length - (i + 1))
      case rel =>
        refine ⟨i + 1, Lib.hid (by omega), by omega, by go_num, hg', (HR'.out _ (by omega)).trans (by simp [go_sem, q1, t1]), (HR'.out _ (by omega)).trans (by simp [go_sem, q2, t2]), (HR'.out _ (by omega)).trans (by simp [go_sem, q4, t4]), Lib.hid ?_⟩
        rw [HTK.out]
        refine forms_append P1.out (fun i x cs hx hc => ⟨(P2.out i x cs hx hc).1, (P2.out i x cs hx hc).2.grows (hrw1.trans (World.grows.alloc World.grows.refl _))⟩) ((FormOk_of_parts h57 H5B.out H5S.out).grows (World.grows.alloc World.grows.refl _)) ?_ HG'.out HA'.out
        rw [HLI.out]
        exact HO'.out
      case measure => have := HGN.out; omega
    · obtain rfl : i = kids.length := by omega
      have hW := HW.out
      rw [List.take_length] at hW
      have hll : (kids.map V).length ≤ 4194304 := by rw [List.length_map]; omega
      have hfl : ((kids.map V).flatMap Fm.ps).length ≤ 33554432 := by
        have h1 := szP_flat (kids.map V)
        have h2 := szP_len ((kids.map V).flatMap Fm.ps)
        have h3 := HFZ.out
        omega
      have c1 : ∀ W, wr.grows W → Calls Try.prog 37 #[.bool false, u3] W (FormP W S1 (pickF false (kids.map V))) := fun W hWg => by
        have hs1 := hWg.below.size
        have hnew : ∀ g, W.heap.size ≤ g → S1 g := fun g hg0 => HSN.out g (by have := z3.1; omega)
        have hsl : SlAt W S1 15 (FormOk W S1) u3 (kids.map V) := (hW.forms_mono hWg (T' := S1) (fun g h _ => h.1)).slAt (by omega) (fun g hg0 => HSN.out g (by have := (hW.lt hg0).1; omega))
        exact refPick_any _ _ _ W _ hnew hsl hll
      generalize pickF false (kids.map V) = F at *
      have C1 := Lib.hid c1
      clear c1 hW hll hfl HW
      go_wp2_with (first | (go_at_call 37; (with_reducible refine (C1.out _ (by repeat (with_reducible first | assumption | exact grA | apply grB | apply grC | apply grD | refine grE ?_ (by omega) _ | refine grF ?_ (by omega) _ _))).mono ?_); rintro e w1 ⟨a5, c5, rfl, hg5, h57, h5b, h5s⟩; have hrw1 : wr.grows w1 := World.grows.trans (by repeat (with_reducible first | assumption | exact grA | apply grB | apply grC | apply grD | refine grE ?_ (by omega) _ | refine grF ?_ (by omega) _ _)) hg5; have hgw1 : w.grows w1 := World.grows.trans hg hrw1; have hs9 := hrw1.below.size; have q1 := (hrw1.row_eq z1.1).trans hx; have q2 := (hrw1.row_eq z2.1).trans hy; have q4 := (hrw1.row_eq z3.1).trans hz; have t1 := row_sz' q1; have t2 := row_sz' q2; have t4 := row_sz' q4; have H5B := Lib.hid h5b; have H5S := Lib.hid h5s; clear h5b h5s hg5))
      (with_reducible show bodyPost _ _ _ _ _ _); exact ret_30 rfl rfl (by simp [go_sem, q2, t2, h57]) rfl ⟨a5, c5, (by simp [go_sem, q2, t2, h57]), (by repeat (with_reducible first | assumption | exact grA | apply grB | apply grC | apply grD | refine grE ?_ (by omega) _ | refine grF ?_ (by omega) _ _)), h57, H5B.out, formS_keep H5S.out (fun g h => ⟨by rw [World.row_setRow, if_neg (HSD.out g h).2.1], (HSD.out g h).1⟩)⟩

set_option maxRecDepth 100000 in
set_option maxHeartbeats 8000000 in
theorem rform_k7 (m : Nat) (IH0 : RFormIH m) (kids : List Ex) (a : Option Addr) (cap left : Nat) (w : World) (S : Nat → Prop) (hS : ∀ g, w.heap.size ≤ g → S g) (hlc : kids.length ≤ cap) (hc : cap ≤ 9223372036854775807) (hkids : KidsAt w m kids a)
    (hmay : kids.all (mayE m left) = true) (hleft : left ≤ 340) (hkind : ∀ t ∈ kids, kindE m t = 2) (hsz : szE (m + 1) (.mk 7 0 0 0 kids) ≤ 1048576) (hok : 1 ≤ kids.length) :
    Calls Try.prog 20 #[.agg #[.int .i64 7, .int .i64 0, .int .i64 0, .int .i64 0, .slice a kids.length cap]] w (FormP w S (pickF true (kids.map (formE m)))) := by
  have hn : kids.length < 1048576 := Nat.lt_of_lt_of_le szE_kids hsz
  have hfsz : szM (kids.map (formE m)) ≤ 4194304 := by
    have h1 : (kids.map (fun t => szF (formE m t))).sum ≤ 4 * (kids.map (szE m)).sum := sum_le_mul kids fun t ht => szF_formE m left t (List.all_eq_true.1 hmay t ht)
    rw [szM_sum, List.map_map]
    rw [szE] at hsz
    have h2 : (kids.map (szF ∘ formE m)).sum = (kids.map (fun t => szF (formE m t))).sum := rfl
    omega
  have IH1 : ∀ i (hlt : i < kids.length) cs' W T, (∀ g, W.heap.size ≤ g → T g) → ExAt W m kids[i] cs' → Calls Try.prog 20 #[.agg cs'.toArray] W (FormP W T (formE m kids[i])) :=
    fun i hlt cs' W T hT h => IH0 _ _ left _ T hT h (List.all_eq_true.1 hmay _ (List.getElem_mem hlt)) hleft (hkind _ (List.getElem_mem hlt)) (Nat.le_of_lt (Nat.lt_of_lt_of_le (szE_kid (List.getElem_mem hlt)) hsz))
  have IH2 : ∀ i (hlt : i < kids.length) cs' W, ExAt W m kids[i] cs' → Calls Try.prog 54 #[.agg cs'.toArray] W (Gives W (.int .i64 2)) := fun i hlt cs' W h => by
    have := refKind_any m _ cs' W h
    rw [hkind _ (List.getElem_mem hlt)] at this; exact this
  have hFM : ∀ f ∈ kids.map (formE m), mayUF f := fun f hf => by
    obtain ⟨t, ht, rfl⟩ := List.mem_map.1 hf
    exact formE_may m left t (List.all_eq_true.1 hmay t ht)
  clear hsz hkind hmay IH0 hok
  generalize formE m = V at *
  have IH := Lib.hid IH1; have IHK := Lib.hid IH2; have HK := Lib.hid hkids; have HFZ := Lib.hid hfsz; have HS := Lib.hid hS; have HFM := Lib.hid hFM; clear IH1 IH2 hkids hfsz hS hFM
  go_enter Try.func20, Try.ntmps20
  go_wp2_with (first | (go_at_call 56; (with_reducible refine (refIntL_any _ _).mono ?_); rintro e w1 ⟨rfl, x1, rfl⟩))
  generalize ho : w.heap.size + 1 + 1 + x1.bs.size = o
  have ho1 : w.heap.size + 1 < o := by omega
  have ne1 : (w.heap.size = o) = False := by apply eq_false; omega
  have ne2 : (o = w.heap.size) = False := by apply eq_false; omega
  have ne3 : (w.heap.size + 1 = o) = False := by apply eq_false; omega
  have ne4 : (o = w.heap.size + 1) = False := by apply eq_false; omega
  obtain ⟨S1, hS1⟩ : ∃ S1 : Nat → Prop, ∀ g, S1 g ↔ (S g ∧ g ≠ w.heap.size + 1 ∧ g ≠ o) := ⟨_, fun _ => Iff.rfl⟩
  have hSn : ∀ g, o + 1 ≤ g → S1 g := fun g h => (hS1 g).2 ⟨HS.out g (by omega), by omega, by omega⟩
  have hSd : ∀ g, S1 g → S g ∧ g ≠ w.heap.size + 1 ∧ g ≠ o := fun g h => (hS1 g).1 h
  have HSN := Lib.hid hSn; have HSD := Lib.hid hSd; clear hS1 hSn hSd HS
  go_loopg [3, 12] kids.length (fun gn v3 v12 wj => ∃ i : Nat, Hid (gn + i = kids.length) ∧ i ≤ kids.length ∧ v12 = .int .i64 i ∧ w.grows wj ∧ wj.row w.heap.size = some (.cells #[.int .i64 7, .int .i64 0, .int .i64 0, .int .i64 0, .slice a kids.length cap] 26) ∧
    wj.row (w.heap.size + 1) = some (.cells (formC (zs 0) (.slice none 0 0)).toArray 30) ∧ wj.row o = some (.cells #[.int .i64 1, .int .i64 1] 23) ∧ Hid (OwnAt wj (o + 1) 30 15 (FormOk wj (exS S1 v3)) v3 ((kids.take i).map V)))
  case atStart => exact ⟨0, rfl, Nat.zero_le _, rfl, (by repeat (with_reducible first | assumption | exact grA | apply grB | apply grC | apply grD | refine grE ?_ (by omega) _ | refine grF ?_ (by omega) _ _)), by simp [go_sem, ho, ne1, ne2, ne3, ne4], by simp [go_sem, ho, ne1, ne2, ne3, ne4]; rfl, by simp [go_sem, ho, ne1, ne2, ne3, ne4], OwnAt_nil _ _ _ _ _⟩
  case round =>
    obtain ⟨i, HGN, hi, rfl, hg, hx, hy, hz, HW⟩ := hrel
    have z1 := row_sz' hx; have z2 := row_sz' hy; have z3 := row_sz' hz
    by_cases hlt : i < kids.length
    · rcases HK.out with h | ⟨g, off, rfl, hcell⟩
      · rw [h] at hlt; cases hlt
      obtain ⟨cs', hel, hex⟩ := hcell i kids[i] (by simp [hlt])
      have hl5 := ExAt_len hex
      have he := hel.grows hg
      unfold eltAt at he
      rw [hl5] at he
      have zr := lt_sz (hel.grows hg).lt
      have e3 : segOk (off + i * 5) 5 (wr.row g) = true := he.1
      have e4 : segV (off + i * 5) 5 (wr.row g) = .agg cs'.toArray := he.2
      have ck : ∀ W, w.grows W → Calls Try.prog 54 #[.agg cs'.toArray] W (Gives W (.int .i64 2)) := fun W hW => IHK.out i hlt cs' W (hex.grows hW)
      have c1 : ∀ W, wr.grows W → Calls Try.prog 20 #[.agg cs'.toArray] W (FormP W (exS S1 u3) (V kids[i])) := fun W hW => by
        have hs1 := hW.below.size
        refine IH.out i hlt cs' W _ (fun g hg0 => ⟨HSN.out g (by have := z3.1; omega), fun e => ?_⟩) (hex.grows (hg.trans hW))
        have := (HW.out.lt e).2; omega
      have htk : (kids.take (i + 1)).map V = (kids.take i).map V ++ [V kids[i]] := by
        rw [List.take_succ_eq_append_getElem hlt, List.map_append]; rfl
      obtain ⟨css, p1, p2, p3⟩ := HW.out
      have hli : ((kids.take i).map V).length = i := by rw [List.length_map, List.length_take, Nat.min_eq_left (Nat.le_of_lt hlt)]
      rw [hli] at p3
      have hbs : o + 1 ≤ wr.heap.size := z3.1
      obtain ⟨k0, k1, k2, k3, va, vl, vc, rfl⟩ := ExAt_vals hex
      generalize V kids[i] = F at *
      have CK := Lib.hid ck; have C1 := Lib.hid c1; have HTK := Lib.hid htk; have P1 := Lib.hid p1; have P2 := Lib.hid p2; have P3 := Lib.hid p3; have HLI := Lib.hid hli
      clear ck c1 hel he hex hl5 hcell HK htk p1 p2 p3 hli
      go_wp2_with (first | (go_at_call 54; (with_reducible refine (CK.out _ (by repeat (with_reducible first | assumption | exact grA | apply grB | apply grC | apply grD | refine grE ?_ (by omega) _ | refine grF ?_ (by omega) _ _))).mono ?_); rintro e w1 ⟨rfl, x1, rfl⟩) | (go_at_call 20; (with_reducible refine (C1.out _ (by repeat (with_reducible first | assumption | exact grA | apply grB | apply grC | apply grD | refine grE ?_ (by omega) _ | refine grF ?_ (by omega) _ _))).mono ?_); rintro e w1 ⟨a5, c5, rfl, hg5, h57, h5b, h5s⟩; have hrw1 : wr.grows w1 := World.grows.trans (by repeat (with_reducible first | assumption | exact grA | apply grB | apply grC | apply grD | refine grE ?_ (by omega) _ | refine grF ?_ (by omega) _ _)) hg5; have hgw1 : w.grows w1 := World.grows.trans hg hrw1; have hs9 := hrw1.below.size; have q1 := (hrw1.row_eq z1.1).trans hx; have q2 := (hrw1.row_eq z2.1).trans hy; have q4 := (hrw1.row_eq z3.1).trans hz; have t1 := row_sz' q1; have t2 := row_sz' q2; have t4 := row_sz' q4; have H5B := Lib.hid h5b; have H5S := Lib.hid h5s; clear h5b h5s hg5) | (at_builtin; refine wpList_app w (o + 1) rfl (.tmp 19) (.tmp 22) _ rfl 30 (.agg #[.int .i64 0, .int .i64 0, .int .i64 0, .int .i64 0, .int .i64 0, .int .i64 0, .int .i64 0, .int .i64 0, .int .i64 0, .int .i64 0, .int .i64 0, .int .i64 0, .int .i64 0, .int .i64 0, .slice none 0 0]) 15 136 Try.underlying49 (by kernel_rfl) rfl (by omega) (by omega) _ i _ rfl (P3.out.grows (by repeat (with_reducible first | assumption | exact grA | apply grB | apply grC | apply grD | refine grE ?_ (by omega) _ | refine grF ?_ (by omega) _ _))) _ 1 _ (formC F.us (.slice a5 F.ps.length c5)) rfl (formC_len _ h57) (cells_of_row (e := 30) (fr := (0, 0)) (by simp [go_sem])) (fun u hu => List.all_eq_true.1 (formC_one rfl) u hu) (by omega) (by repeat (with_reducible first | assumption | exact grA | apply grB | apply grC | apply grD | refine grE ?_ (by omega) _ | refine grF ?_ (by omega) _ _)) (by omega) (by simp; omega) ?_; intro v' w' hg' HO' HR' HG' HA'))
      go_wp2_with fail
      go_roundg (kids.length - (i + 1))
      case rel =>
        refine ⟨i + 1, Lib.hid (by omega), by omega, by go_num, hg', (HR'.out _ (by omega)).trans (by simp [go_sem, q1, t1]), (HR'.out _ (by omega)).trans (by simp [go_sem, q2, t2]), (HR'.out _ (by omega)).trans (by simp [go_sem, q4, t4]), Lib.hid ?_⟩
        rw [HTK.out]
        refine forms_append P1.out (fun i x cs hx hc => ⟨(P2.out i x cs hx hc).1, (P2.out i x cs hx hc).2.grows (hrw1.trans (World.grows.alloc World.grows.refl _))⟩) ((FormOk_of_parts h57 H5B.out H5S.out).grows (World.grows.alloc World.grows.refl _)) ?_ HG'.out HA'.out
        rw [HLI.out]
        exact HO'.out
      case measure => have := HGN.out; omega
    · obtain rfl : i = kids.length := by omega
      have hW := HW.out
      rw [List.take_length] at hW
      have hll : (kids.map V).length ≤ 4194304 := by rw [List.length_map]; omega
      have hfl : ((kids.map V).flatMap Fm.ps).length ≤ 33554432 := by
        have h1 := szP_flat (kids.map V)
        have h2 := szP_len ((kids.map V).flatMap Fm.ps)
        have h3 := HFZ.out
        omega
      have c1 : ∀ W, wr.grows W → Calls Try.prog 37 #[.bool true, u3] W (FormP W S1 (pickF true (kids.map V))) := fun W hWg => by
        have hs1 := hWg.below.size
        have hnew : ∀ g, W.heap.size ≤ g → S1 g := fun g hg0 => HSN.out g (by have := z3.1; omega)
        have hsl : SlAt W S1 15 (FormOk W S1) u3 (kids.map V) := (hW.forms_mono hWg (T' := S1) (fun g h _ => h.1)).slAt (by omega) (fun g hg0 => HSN.out g (by have := (hW.lt hg0).1; omega))
        exact refPick_any _ _ _ W _ hnew hsl hll
      generalize pickF true (kids.map V) = F at *
      have C1 := Lib.hid c1
      clear c1 hW hll hfl HW
      go_wp2_with (first | (go_at_call 37; (with_reducible refine (C1.out _ (by repeat (with_reducible first | assumption | exact grA | apply grB | apply grC | apply grD | refine grE ?_ (by omega) _ | refine grF ?_ (by omega) _ _))).mono ?_); rintro e w1 ⟨a5, c5, rfl, hg5, h57, h5b, h5s⟩; have hrw1 : wr.grows w1 := World.grows.trans (by repeat (with_reducible first | assumption | exact grA | apply grB | apply grC | apply grD | refine grE ?_ (by omega) _ | refine grF ?_ (by omega) _ _)) hg5; have hgw1 : w.grows w1 := World.grows.trans hg hrw1; have hs9 := hrw1.below.size; have q1 := (hrw1.row_eq z1.1).trans hx; have q2 := (hrw1.row_eq z2.1).trans hy; have q4 := (hrw1.row_eq z3.1).trans hz; have t1 := row_sz' q1; have t2 := row_sz' q2; have t4 := row_sz' q4; have H5B := Lib.hid h5b; have H5S := Lib.hid h5s; clear h5b h5s hg5))
      (with_reducible show bodyPost _ _ _ _ _ _); exact ret_30 rfl rfl (by simp [go_sem, q2, t2, h57]) rfl ⟨a5, c5, (by simp [go_sem, q2, t2, h57]), (by repeat (with_reducible first | assumption | exact grA | apply grB | apply grC | apply grD | refine grE ?_ (by omega) _ | refine grF ?_ (by omega) _ _)), h57, H5B.out, formS_keep H5S.out (fun g h => ⟨by rw [World.row_setRow, if_neg (HSD.out g h).2.1], (HSD.out g h).1⟩)⟩

set_option maxRecDepth 100000 in
set_option maxHeartbeats 8000000 in
theorem rform_k3 (m : Nat) (IH0 : RFormIH m) (kids : List Ex) (a : Option Addr) (cap left : Nat) (w : World) (S : Nat → Prop) (hS : ∀ g, w.heap.size ≤ g → S g) (hlc : 1 ≤ cap) (hc : cap ≤ 9223372036854775807) (hkids : KidsAt w m kids a)
    (hmay : kids.all (mayE m left) = true) (hleft : left ≤ 340) (hkind : ∀ t ∈ kids, kindE m t = 2) (hsz : szE (m + 1) (.mk 3 0 0 0 kids) ≤ 1048576) (hok : kids.length = 1) :
    Calls Try.prog 20 #[.agg #[.int .i64 3, .int .i64 0, .int .i64 0, .int .i64 0, .slice a 1 cap]] w (FormP w S (scaleF (-1, 1) ((kids.map (formE m)).getD 0 zeroF))) := by
  have hn : kids.length < 1048576 := Nat.lt_of_lt_of_le szE_kids hsz
  have hfsz : szM (kids.map (formE m)) ≤ 4194304 := by
    have h1 : (kids.map (fun t => szF (formE m t))).sum ≤ 4 * (kids.map (szE m)).sum := sum_le_mul kids fun t ht => szF_formE m left t (List.all_eq_true.1 hmay t ht)
    rw [szM_sum, List.map_map]
    rw [szE] at hsz
    have h2 : (kids.map (szF ∘ formE m)).sum = (kids.map (fun t => szF (formE m t))).sum := rfl
    omega
  have IH1 : ∀ i (hlt : i < kids.length) cs' W T, (∀ g, W.heap.size ≤ g → T g) → ExAt W m kids[i] cs' → Calls Try.prog 20 #[.agg cs'.toArray] W (FormP W T (formE m kids[i])) :=
    fun i hlt cs' W T hT h => IH0 _ _ left _ T hT h (List.all_eq_true.1 hmay _ (List.getElem_mem hlt)) hleft (hkind _ (List.getElem_mem hlt)) (Nat.le_of_lt (Nat.lt_of_lt_of_le (szE_kid (List.getElem_mem hlt)) hsz))
  have IH2 : ∀ i (hlt : i < kids.length) cs' W, ExAt W m kids[i] cs' → Calls Try.prog 54 #[.agg cs'.toArray] W (Gives W (.int .i64 2)) := fun i hlt cs' W h => by
    have := refKind_any m _ cs' W h
    rw [hkind _ (List.getElem_mem hlt)] at this; exact this
  have hFM : ∀ f ∈ kids.map (formE m), mayUF f := fun f hf => by
    obtain ⟨t, ht, rfl⟩ := List.mem_map.1 hf
    exact formE_may m left t (List.all_eq_true.1 hmay t ht)
  clear hsz hkind hmay IH0
  generalize formE m = V at *
  have IH := Lib.hid IH1; have IHK := Lib.hid IH2; have HK := Lib.hid hkids; have HFZ := Lib.hid hfsz; have HS := Lib.hid hS; have HFM := Lib.hid hFM; clear IH1 IH2 hkids hfsz hS hFM
  have HL := Lib.hid hok; rw [hok] at hn; clear hok
  go_enter Try.func20, Try.ntmps20
  go_wp2_with (first | (go_at_call 56; (with_reducible refine (refIntL_any _ _).mono ?_); rintro e w1 ⟨rfl, x1, rfl⟩))
  generalize ho : w.heap.size + 1 + 1 + x1.bs.size = o
  have ho1 : w.heap.size + 1 < o := by omega
  have ne1 : (w.heap.size = o) = False := by apply eq_false; omega
  have ne2 : (o = w.heap.size) = False := by apply eq_false; omega
  have ne3 : (w.heap.size + 1 = o) = False := by apply eq_false; omega
  have ne4 : (o = w.heap.size + 1) = False := by apply eq_false; omega
  obtain ⟨S1, hS1⟩ : ∃ S1 : Nat → Prop, ∀ g, S1 g ↔ (S g ∧ g ≠ w.heap.size + 1 ∧ g ≠ o) := ⟨_, fun _ => Iff.rfl⟩
  have hSn : ∀ g, o + 1 ≤ g → S1 g := fun g h => (hS1 g).2 ⟨HS.out g (by omega), by omega, by omega⟩
  have hSd : ∀ g, S1 g → S g ∧ g ≠ w.heap.size + 1 ∧ g ≠ o := fun g h => (hS1 g).1 h
  have HSN := Lib.hid hSn; have HSD := Lib.hid hSd; clear hS1 hSn hSd HS
  go_loopg [3, 12] 1 (fun gn v3 v12 wj => ∃ i : Nat, Hid (gn + i = 1) ∧ i ≤ 1 ∧ v12 = .int .i64 i ∧ w.grows wj ∧ wj.row w.heap.size = some (.cells #[.int .i64 3, .int .i64 0, .int .i64 0, .int .i64 0, .slice a 1 cap] 26) ∧
    wj.row (w.heap.size + 1) = some (.cells (formC (zs 0) (.slice none 0 0)).toArray 30) ∧ wj.row o = some (.cells #[.int .i64 1, .int .i64 1] 23) ∧ Hid (OwnAt wj (o + 1) 30 15 (FormOk wj (exS S1 v3)) v3 ((kids.take i).map V)))
  case atStart => exact ⟨0, rfl, Nat.zero_le _, rfl, (by repeat (with_reducible first | assumption | exact grA | apply grB | apply grC | apply grD | refine grE ?_ (by omega) _ | refine grF ?_ (by omega) _ _)), by simp [go_sem, ho, ne1, ne2, ne3, ne4], by simp [go_sem, ho, ne1, ne2, ne3, ne4]; rfl, by simp [go_sem, ho, ne1, ne2, ne3, ne4], OwnAt_nil _ _ _ _ _⟩
  case round =>
    obtain ⟨i, HGN, hi, rfl, hg, hx, hy, hz, HW⟩ := hrel
    have z1 := row_sz' hx; have z2 := row_sz' hy; have z3 := row_sz' hz
    by_cases hlt0 : i < 1
    · have hlt : i < kids.length := by rw [HL.out]; exact hlt0
      rcases HK.out with h | ⟨g, off, rfl, hcell⟩
      · rw [h] at hlt; cases hlt
      obtain ⟨cs', hel, hex⟩ := hcell i kids[i] (by simp [hlt])
      have hl5 := ExAt_len hex
      have he := hel.grows hg
      unfold eltAt at he
      rw [hl5] at he
      have zr := lt_sz (hel.grows hg).lt
      have e3 : segOk (off + i * 5) 5 (wr.row g) = true := he.1
      have e4 : segV (off + i * 5) 5 (wr.row g) = .agg cs'.toArray := he.2
      have ck : ∀ W, w.grows W → Calls Try.prog 54 #[.agg cs'.toArray] W (Gives W (.int .i64 2)) := fun W hW => IHK.out i hlt cs' W (hex.grows hW)
      have c1 : ∀ W, wr.grows W → Calls Try.prog 20 #[.agg cs'.toArray] W (FormP W (exS S1 u3) (V kids[i])) := fun W hW => by
        have hs1 := hW.below.size
        refine IH.out i hlt cs' W _ (fun g hg0 => ⟨HSN.out g (by have := z3.1; omega), fun e => ?_⟩) (hex.grows (hg.trans hW))
        have := (HW.out.lt e).2; omega
      have htk : (kids.take (i + 1)).map V = (kids.take i).map V ++ [V kids[i]] := by
        rw [List.take_succ_eq_append_getElem hlt, List.map_append]; rfl
      obtain ⟨css, p1, p2, p3⟩ := HW.out
      have hli : ((kids.take i).map V).length = i := by rw [List.length_map, List.length_take, Nat.min_eq_left (Nat.le_of_lt hlt)]
      rw [hli] at p3
      have hbs : o + 1 ≤ wr.heap.size := z3.1
      obtain ⟨k0, k1, k2, k3, va, vl, vc, rfl⟩ := ExAt_vals hex
      generalize V kids[i] = F at *
      have CK := Lib.hid ck; have C1 := Lib.hid c1; have HTK := Lib.hid htk; have P1 := Lib.hid p1; have P2 := Lib.hid p2; have P3 := Lib.hid p3; have HLI := Lib.hid hli
      clear ck c1 hel he hex hl5 hcell HK htk p1 p2 p3 hli
      go_wp2_with (first | (go_at_call 54; (with_reducible refine (CK.out _ (by repeat (with_reducible first | assumption | exact grA | apply grB | apply grC | apply grD | refine grE ?_ (by omega) _ | refine grF ?_ (by omega) _ _))).mono ?_); rintro e w1 ⟨rfl, x1, rfl⟩) | (go_at_call 20; (with_reducible refine (C1.out _ (by repeat (with_reducible first | assumption | exact grA | apply grB | apply grC | apply grD | refine grE ?_ (by omega) _ | refine grF ?_ (by omega) _ _))).mono ?_); rintro e w1 ⟨a5, c5, rfl, hg5, h57, h5b, h5s⟩; have hrw1 : wr.grows w1 := World.grows.trans (by repeat (with_reducible first | assumption | exact grA | apply grB | apply grC | apply grD | refine grE ?_ (by omega) _ | refine grF ?_ (by omega) _ _)) hg5; have hgw1 : w.grows w1 := World.grows.trans hg hrw1; have hs9 := hrw1.below.size; have q1 := (hrw1.row_eq z1.1).trans hx; have q2 := (hrw1.row_eq z2.1).trans hy; have q4 := (hrw1.row_eq z3.1).trans hz; have t1 := row_sz' q1; have t2 := row_sz' q2; have t4 := row_sz' q4; have H5B := Lib.hid h5b; have H5S := Lib.hid h5s; clear h5b h5s hg5) | (at_builtin; refine wpList_app w (o + 1) rfl (.tmp 19) (.tmp 22) _ rfl 30 (.agg #[.int .i64 0, .int .i64 0, .int .i64 0, .int .i64 0, .int .i64 0, .int .i64 0, .int .i64 0, .int .i64 0, .int .i64 0, .int .i64 0, .int .i64 0, .int .i64 0, .int .i64 0, .int .i64 0, .slice none 0 0]) 15 136 Try.underlying49 (by kernel_rfl) rfl (by omega) (by omega) _ i _ rfl (P3.out.grows (by repeat (with_reducible first | assumption | exact grA | apply grB | apply grC | apply grD | refine grE ?_ (by omega) _ | refine grF ?_ (by omega) _ _))) _ 1 _ (formC F.us (.slice a5 F.ps.length c5)) rfl (formC_len _ h57) (cells_of_row (e := 30) (fr := (0, 0)) (by simp [go_sem])) (fun u hu => List.all_eq_true.1 (formC_one rfl) u hu) (by omega) (by repeat (with_reducible first | assumption | exact grA | apply grB | apply grC | apply grD | refine grE ?_ (by omega) _ | refine grF ?_ (by omega) _ _)) (by omega) (by simp; omega) ?_; intro v' w' hg' HO' HR' HG' HA'))
      go_wp2_with fail
      go_roundg (1 - (i + 1))
      case rel =>
        refine ⟨i + 1, Lib.hid (by omega), by omega, by go_num, hg', (HR'.out _ (by omega)).trans (by simp [go_sem, q1, t1]), (HR'.out _ (by omega)).trans (by simp [go_sem, q2, t2]), (HR'.out _ (by omega)).trans (by simp [go_sem, q4, t4]), Lib.hid ?_⟩
        rw [HTK.out]
        refine forms_append P1.out (fun i x cs hx hc => ⟨(P2.out i x cs hx hc).1, (P2.out i x cs hx hc).2.grows (hrw1.trans (World.grows.alloc World.grows.refl _))⟩) ((FormOk_of_parts h57 H5B.out H5S.out).grows (World.grows.alloc World.grows.refl _)) ?_ HG'.out HA'.out
        rw [HLI.out]
        exact HO'.out
      case measure => have := HGN.out; omega
    · obtain rfl : i = 1 := by omega
      have hW := HW.out
      rw [List.take_of_length_le (by rw [HL.out]; exact Nat.le_refl _)] at hW
      have hfz := HFZ.out
      obtain ⟨f, hf⟩ : ∃ f, kids.map V = [f] := len_one (by rw [List.length_map]; exact HL.out)
      rw [hf] at hW hfz
      have hgd : (kids.map V).getD 0 zeroF = f := by rw [hf]; rfl
      have hsl0 : SlAt wr S1 15 (FormOk wr S1) u3 [f] := (hW.forms_mono World.grows.refl (T' := S1) (fun g h _ => h.1)).slAt (by omega) (fun g hg0 => HSN.out g (by have := (hW.lt hg0).1; omega))
      rw [szM, szM] at hfz
      obtain ⟨g', off', cap', us, a1, n1, c1', ps, rfl, hc1, hc2, rfl, hn1, hu7, hub, hg3, eo, ev, hsl⟩ := slAt_one hsl0
      have c1 : ∀ W, wr.grows W → Calls Try.prog 29 #[.agg (formC us (.slice a1 n1 c1')).toArray, .agg #[.int .i64 (-1), .int .i64 1]] W (FormP W S1 (scaleF (-1, 1) ((kids.map V).getD 0 zeroF))) := fun W hWg => by
        have hs1 := hWg.below.size
        rw [hgd]
        exact refScale_any _ _ (-1) 1 W _ (fun g hg0 => HSN.out g (by have := z3.1; omega)) ((FormOk_form hu7 hub hsl).grows hWg) (by unfold I64; omega) (by unfold I64; omega) (by omega)
      have zg := lt_sz hg3
      generalize scaleF (-1, 1) ((kids.map V).getD 0 zeroF) = F at *
      have C1 := Lib.hid c1
      clear c1 hW HW hfz hf hgd hsl0 hsl hub hn1 hg3 HL
      go_wp2_with fail
      refine wp_region_plus_seq_tail 5 (by kernel_rfl) (by kernel_rfl) (fun x0 => ?_)
      simp only [List.take_succ_cons, List.take_zero, List.drop_succ_cons, List.drop_zero]
      repeat (any_goals (first | (refine wpSeqL_free rfl ?_; first | (go_big_quiet_skip; refine wpQuiet_nil ?_) | (go_big_quiet_step (fail); refine wpQuiet_nil ?_) | (refine wpQuiet_step (fun K hK => ?_); go_simp; split <;> (refine hK _ ?_; clear hK K; refine wpQuiet_nil ?_))) | (refine wpSeqL_link rfl (fun K hK => ?_); go_simp; first | first | (refine hK _ _ (by show World.grows _ _; repeat (first | assumption | exact grA | apply grB | apply grC | apply grD)) ?_; clear hK K) | (((first | (go_at_call 56; (with_reducible refine (refIntL_any _ _).mono ?_); rintro e w1 ⟨rfl, x1, rfl⟩) | (go_at_call 29; (with_reducible refine (C1.out _ (by repeat (with_reducible first | assumption | exact grA | apply grB | apply grC | apply grD | refine grE ?_ (by omega) _ | refine grF ?_ (by omega) _ _))).mono ?_); rintro e w2 ⟨a6, c6, rfl, hg6, h67, h6b, h6s⟩; have hrw2 : wr.grows w2 := World.grows.trans (by repeat (with_reducible first | assumption | exact grA | apply grB | apply grC | apply grD | refine grE ?_ (by omega) _ | refine grF ?_ (by omega) _ _)) hg6; have H6B := Lib.hid h6b; have H6S := Lib.hid h6s; clear h6b h6s hg6))); refine ⟨_, rfl, hK _ _ (by show World.grows _ _; repeat (first | assumption | exact grA | apply grB | apply grC | apply grD)) ?_⟩; clear hK K) | (split <;> (first | (refine hK _ _ (by show World.grows _ _; repeat (first | assumption | exact grA | apply grB | apply grC | apply grD)) ?_; clear hK K) | (((first | (go_at_call 56; (with_reducible refine (refIntL_any _ _).mono ?_); rintro e w1 ⟨rfl, x1, rfl⟩) | (go_at_call 29; (with_reducible refine (C1.out _ (by repeat (with_reducible first | assumption | exact grA | apply grB | apply grC | apply grD | refine grE ?_ (by omega) _ | refine grF ?_ (by omega) _ _))).mono ?_); rintro e w2 ⟨a6, c6, rfl, hg6, h67, h6b, h6s⟩; have hrw2 : wr.grows w2 := World.grows.trans (by repeat (with_reducible first | assumption | exact grA | apply grB | apply grC | apply grD | refine grE ?_ (by omega) _ | refine grF ?_ (by omega) _ _)) hg6; have H6B := Lib.hid h6b; have H6S := Lib.hid h6s; clear h6b h6s hg6))); refine ⟨_, rfl, hK _ _ (by show World.grows _ _; repeat (first | assumption | exact grA | apply grB | apply grC | apply grD)) ?_⟩; clear hK K))))))
      all_goals (refine wpSeqL_end ?_)
      have hgw2 : w.grows w2 := World.grows.trans hg hrw2
      have q3 := (hrw2.row_eq z2.1).trans hy
      have t3 := row_sz' q3
      go_wp2_with fail
      (with_reducible show bodyPost _ _ _ _ _ _); exact ret_30 rfl rfl (by simp [go_sem, q3, t3, h67]) rfl ⟨a6, c6, (by simp [go_sem, q3, t3, h67]), (by repeat (with_reducible first | assumption | exact grA | apply grB | apply grC | apply grD | refine grE ?_ (by omega) _ | refine grF ?_ (by omega) _ _)), h67, H6B.out, formS_keep H6S.out (fun g h => ⟨by rw [World.row_setRow, if_neg (HSD.out g h).2.1], (HSD.out g h).1⟩)⟩

set_option maxRecDepth 100000 in
set_option maxHeartbeats 8000000 in
theorem rform_k8 (m : Nat) (IH0 : RFormIH m) (kids : List Ex) (a : Option Addr) (cap left : Nat) (w : World) (S : Nat → Prop) (hS : ∀ g, w.heap.size ≤ g → S g) (hlc : 3 ≤ cap) (hc : cap ≤ 9223372036854775807) (hkids : KidsAt w m kids a)
    (hmay : kids.all (mayE m left) = true) (hleft : left ≤ 340) (hkind : ∀ t ∈ kids, kindE m t = 2) (hsz : szE (m + 1) (.mk 8 0 0 0 kids) ≤ 1048576) (hok : kids.length = 3) :
    Calls Try.prog 20 #[.agg #[.int .i64 8, .int .i64 0, .int .i64 0, .int .i64 0, .slice a 3 cap]] w (FormP w S (pickF true [(kids.map (formE m)).getD 0 zeroF, pickF false ((kids.map (formE m)).drop 1)])) := by
  have hn : kids.length < 1048576 := Nat.lt_of_lt_of_le szE_kids hsz
  have hfsz : szM (kids.map (formE m)) ≤ 4194304 := by
    have h1 : (kids.map (fun t => szF (formE m t))).sum ≤ 4 * (kids.map (szE m)).sum := sum_le_mul kids fun t ht => szF_formE m left t (List.all_eq_true.1 hmay t ht)
    rw [szM_sum, List.map_map]
    rw [szE] at hsz
    have h2 : (kids.map (szF ∘ formE m)).sum = (kids.map (fun t => szF (formE m t))).sum := rfl
    omega
  have IH1 : ∀ i (hlt : i < kids.length) cs' W T, (∀ g, W.heap.size ≤ g → T g) → ExAt W m kids[i] cs' → Calls Try.prog 20 #[.agg cs'.toArray] W (FormP W T (formE m kids[i])) :=
    fun i hlt cs' W T hT h => IH0 _ _ left _ T hT h (List.all_eq_true.1 hmay _ (List.getElem_mem hlt)) hleft (hkind _ (List.getElem_mem hlt)) (Nat.le_of_lt (Nat.lt_of_lt_of_le (szE_kid (List.getElem_mem hlt)) hsz))
  have IH2 : ∀ i (hlt : i < kids.length) cs' W, ExAt W m kids[i] cs' → Calls Try.prog 54 #[.agg cs'.toArray] W (Gives W (.int .i64 2)) := fun i hlt cs' W h => by
    have := refKind_any m _ cs' W h
    rw [hkind _ (List.getElem_mem hlt)] at this; exact this
  have hFM : ∀ f ∈ kids.map (formE m), mayUF f := fun f hf => by
    obtain ⟨t, ht, rfl⟩ := List.mem_map.1 hf
    exact formE_may m left t (List.all_eq_true.1 hmay t ht)
  clear hsz hkind hmay IH0
  generalize formE m = V at *
  have IH := Lib.hid IH1; have IHK := Lib.hid IH2; have HK := Lib.hid hkids; have HFZ := Lib.hid hfsz; have HS := Lib.hid hS; have HFM := Lib.hid hFM; clear IH1 IH2 hkids hfsz hS hFM
  have HL := Lib.hid hok; rw [hok] at hn; clear hok
  go_enter Try.func20, Try.ntmps20
  go_wp2_with (first | (go_at_call 56; (with_reducible refine (refIntL_any _ _).mono ?_); rintro e w1 ⟨rfl, x1, rfl⟩))
  generalize ho : w.heap.size + 1 + 1 + x1.bs.size = o
  have ho1 : w.heap.size + 1 < o := by omega
  have ne1 : (w.heap.size = o) = False := by apply eq_false; omega
  have ne2 : (o = w.heap.size) = False := by apply eq_false; omega
  have ne3 : (w.heap.size + 1 = o) = False := by apply eq_false; omega
  have ne4 : (o = w.heap.size + 1) = False := by apply eq_false; omega
  obtain ⟨S1, hS1⟩ : ∃ S1 : Nat → Prop, ∀ g, S1 g ↔ (S g ∧ g ≠ w.heap.size + 1 ∧ g ≠ o) := ⟨_, fun _ => Iff.rfl⟩
  have hSn : ∀ g, o + 1 ≤ g → S1 g := fun g h => (hS1 g).2 ⟨HS.out g (by omega), by omega, by omega⟩
  have hSd : ∀ g, S1 g → S g ∧ g ≠ w.heap.size + 1 ∧ g ≠ o := fun g h => (hS1 g).1 h
  have HSN := Lib.hid hSn; have HSD := Lib.hid hSd; clear hS1 hSn hSd HS
  go_loopg [3, 12] 3 (fun gn v3 v12 wj => ∃ i : Nat, Hid (gn + i = 3) ∧ i ≤ 3 ∧ v12 = .int .i64 i ∧ w.grows wj ∧ wj.row w.heap.size = some (.cells #[.int .i64 8, .int .i64 0, .int .i64 0, .int .i64 0, .slice a 3 cap] 26) ∧
    wj.row (w.heap.size + 1) = some (.cells (formC (zs 0) (.slice none 0 0)).toArray 30) ∧ wj.row o = some (.cells #[.int .i64 1, .int .i64 1] 23) ∧ Hid (OwnAt wj (o + 1) 30 15 (FormOk wj (exS S1 v3)) v3 ((kids.take i).map V)))
  case atStart => exact ⟨0, rfl, Nat.zero_le _, rfl, (by repeat (with_reducible first | assumption | exact grA | apply grB | apply grC | apply grD | refine grE ?_ (by omega) _ | refine grF ?_ (by omega) _ _)), by simp [go_sem, ho, ne1, ne2, ne3, ne4], by simp [go_sem, ho, ne1, ne2, ne3, ne4]; rfl, by simp [go_sem, ho, ne1, ne2, ne3, ne4], OwnAt_nil _ _ _ _ _⟩
  case round =>
    obtain ⟨i, HGN, hi, rfl, hg, hx, hy, hz, HW⟩ := hrel
    have z1 := row_sz' hx; have z2 := row_sz' hy; have z3 := row_sz' hz
    by_cases hlt0 : i < 3
    · have hlt : i < kids.length := by rw [HL.out]; exact hlt0
      rcases HK.out with h | ⟨g, off, rfl, hcell⟩
      · rw [h] at hlt; cases hlt
      obtain ⟨cs', hel, hex⟩ := hcell i kids[i] (by simp [hlt])
      have hl5 := ExAt_len hex
      have he := hel.grows hg
      unfold eltAt at he
      rw [hl5] at he
      have zr := lt_sz (hel.grows hg).lt
      have e3 : segOk (off + i * 5) 5 (wr.row g) = true := he.1
      have e4 : segV (off + i * 5) 5 (wr.row g) = .agg cs'.toArray := he.2
      have ck : ∀ W, w.grows W → Calls Try.prog 54 #[.agg cs'.toArray] W (Gives W (.int .i64 2)) := fun W hW => IHK.out i hlt cs' W (hex.grows hW)
      have c1 : ∀ W, wr.grows W → Calls Try.prog 20 #[.agg cs'.toArray] W (FormP W (exS S1 u3) (V kids[i])) := fun W hW => by
        have hs1 := hW.below.size
        refine IH.out i hlt cs' W _ (fun g hg0 => ⟨HSN.out g (by have := z3.1; omega), fun e => ?_⟩) (hex.grows (hg.trans hW))
        have := (HW.out.lt e).2; omega
      have htk : (kids.take (i + 1)).map V = (kids.take i).map V ++ [V kids[i]] := by
        rw [List.take_succ_eq_append_getElem hlt, List.map_append]; rfl
      obtain ⟨css, p1, p2, p3⟩ := HW.out
      have hli : ((kids.take i).map V).length = i := by rw [List.length_map, List.length_take, Nat.min_eq_left (Nat.le_of_lt hlt)]
      rw [hli] at p3
      have hbs : o + 1 ≤ wr.heap.size := z3.1
      obtain ⟨k0, k1, k2, k3, va, vl, vc, rfl⟩ := ExAt_vals hex
      generalize V kids[i] = F at *
      have CK := Lib.hid ck; have C1 := Lib.hid c1; have HTK := Lib.hid htk; have P1 := Lib.hid p1; have P2 := Lib.hid p2; have P3 := Lib.hid p3; have HLI := Lib.hid hli
      clear ck c1 hel he hex hl5 hcell HK htk p1 p2 p3 hli
      go_wp2_with (first | (go_at_call 54; (with_reducible refine (CK.out _ (by repeat (with_reducible first | assumption | exact grA | apply grB | apply grC | apply grD | refine grE ?_ (by omega) _ | refine grF ?_ (by omega) _ _))).mono ?_); rintro e w1 ⟨rfl, x1, rfl⟩) | (go_at_call 20; (with_reducible refine (C1.out _ (by repeat (with_reducible first | assumption | exact grA | apply grB | apply grC | apply grD | refine grE ?_ (by omega) _ | refine grF ?_ (by omega) _ _))).mono ?_); rintro e w1 ⟨a5, c5, rfl, hg5, h57, h5b, h5s⟩; have hrw1 : wr.grows w1 := World.grows.trans (by repeat (with_reducible first | assumption | exact grA | apply grB | apply grC | apply grD | refine grE ?_ (by omega) _ | refine grF ?_ (by omega) _ _)) hg5; have hgw1 : w.grows w1 := World.grows.trans hg hrw1; have hs9 := hrw1.below.size; have q1 := (hrw1.row_eq z1.1).trans hx; have q2 := (hrw1.row_eq z2.1).trans hy; have q4 := (hrw1.row_eq z3.1).trans hz; have t1 := row_sz' q1; have t2 := row_sz' q2; have t4 := row_sz' q4; have H5B := Lib.hid h5b; have H5S := Lib.hid h5s; clear h5b h5s hg5) | (at_builtin; refine wpList_app w (o + 1) rfl (.tmp 19) (.tmp 22) _ rfl 30 (.agg #[.int .i64 0, .int .i64 0, .int .i64 0, .int .i64 0, .int .i64 0, .int .i64 0, .int .i64 0, .int .i64 0, .int .i64 0, .int .i64 0, .int .i64 0, .int .i64 0, .int .i64 0, .int .i64 0, .slice none 0 0]) 15 136 Try.underlying49 (by kernel_rfl) rfl (by omega) (by omega) _ i _ rfl (P3.out.grows (by repeat (with_reducible first | assumption | exact grA | apply grB | apply grC | apply grD | refine grE ?_ (by omega) _ | refine grF ?_ (by omega) _ _))) _ 1 _ (formC F.us (.slice a5 F.ps.length c5)) rfl (formC_len _ h57) (cells_of_row (e := 30) (fr := (0, 0)) (by simp [go_sem])) (fun u hu => List.all_eq_true.1 (formC_one rfl) u hu) (by omega) (by repeat (with_reducible first | assumption | exact grA | apply grB | apply grC | apply grD | refine grE ?_ (by omega) _ | refine grF ?_ (by omega) _ _)) (by omega) (by simp; omega) ?_; intro v' w' hg' HO' HR' HG' HA'))
      go_wp2_with fail
      go_roundg (3 - (i + 1))
      case rel =>
        refine ⟨i + 1, Lib.hid (by omega), by omega, by go_num, hg', (HR'.out _ (by omega)).trans (by simp [go_sem, q1, t1]), (HR'.out _ (by omega)).trans (by simp [go_sem, q2, t2]), (HR'.out _ (by omega)).trans (by simp [go_sem, q4, t4]), Lib.hid ?_⟩
        rw [HTK.out]
        refine forms_append P1.out (fun i x cs hx hc => ⟨(P2.out i x cs hx hc).1, (P2.out i x cs hx hc).2.grows (hrw1.trans (World.grows.alloc World.grows.refl _))⟩) ((FormOk_of_parts h57 H5B.out H5S.out).grows (World.grows.alloc World.grows.refl _)) ?_ HG'.out HA'.out
        rw [HLI.out]
        exact HO'.out
      case measure => have := HGN.out; omega
    · obtain rfl : i = 3 := by omega
      have hW := HW.out
      rw [List.take_of_length_le (by rw [HL.out]; exact Nat.le_refl _)] at hW
      obtain ⟨f, f1, f2, hf⟩ : ∃ f f1 f2, kids.map V = [f, f1, f2] := len_three (by rw [List.length_map]; exact HL.out)
      rw [hf] at hW
      have hgd : pickF true [(kids.map V).getD 0 zeroF, pickF false ((kids.map V).drop 1)] = pickF true [f, pickF false [f1, f2]] := by rw [hf]; rfl
      have hsl0 : SlAt wr S1 15 (FormOk wr S1) u3 [f, f1, f2] := (hW.forms_mono World.grows.refl (T' := S1) (fun g h _ => h.1)).slAt (by omega) (fun g hg0 => HSN.out g (by have := (hW.lt hg0).1; omega))
      obtain ⟨g', off', cap', rfl, hc1, hc2, hg3, us, a0, n0, c0, us1, a1, n1, c1', us2, a2, n2, c2', hu7, hu71, hu72, eo, ev, eo1, ev1, eo2, ev2, hf0, hf1, hf2⟩ := slAt_three hsl0
      have c1 : ∀ W G, wr.grows W → S1 G → W.row G = some (.cells (formC us1 (.slice a1 n1 c1') ++ formC us2 (.slice a2 n2 c2')).toArray 30) → Calls Try.prog 37 #[.bool false, .slice (some ⟨G, 0, none⟩) 2 2] W (FormP W S1 (pickF false [f1, f2])) := fun W G hWg hSG hrow => by
        have hs1 := hWg.below.size
        exact refPick_any _ _ _ W _ (fun g hg0 => HSN.out g (by have := z3.1; omega)) (slAt_two hrow hSG (hf1.grows hWg) (hf2.grows hWg)) (by simp)
      have zg := lt_sz hg3
      generalize pickF false [f1, f2] = F1 at *
      have c2 : ∀ W a5 c5 G, wr.grows W → S1 G → F1.us.length = 7 → (∀ p ∈ F1.us, I64p p) → SlAt W S1 2 (PartR (FormOk W S1) W S1) (.slice a5 F1.ps.length c5) F1.ps →
          W.row G = some (.cells (formC us (.slice a0 n0 c0) ++ formC F1.us (.slice a5 F1.ps.length c5)).toArray 30) → Calls Try.prog 37 #[.bool true, .slice (some ⟨G, 0, none⟩) 2 2] W (FormP W S1 (pickF true [(kids.map V).getD 0 zeroF, pickF false ((kids.map V).drop 1)])) := fun W a5 c5 G hWg hSG h57 h5b h5s hrow => by
        have hs1 := hWg.below.size
        rw [hgd]
        exact refPick_any _ _ _ W _ (fun g hg0 => HSN.out g (by have := z3.1; omega)) (slAt_two hrow hSG (hf0.grows hWg) (FormOk_of_parts h57 h5b h5s)) (by simp)
      generalize pickF true [(kids.map V).getD 0 zeroF, pickF false ((kids.map V).drop 1)] = F at *
      have C1 := Lib.hid c1; have C2 := Lib.hid c2
      have hz3 := z3.1
      clear c1 c2 hW HW hf hgd hsl0 hf0 hf1 hf2 hg3 HL
      go_wp2_with fail
      refine wp_region_plus_seq_tail 13 (by kernel_rfl) (by kernel_rfl) (fun x0 => ?_)
      simp only [List.take_succ_cons, List.take_zero, List.drop_succ_cons, List.drop_zero]
      repeat (any_goals (first | (refine wpSeqL_free rfl ?_; first | (go_big_quiet_skip; refine wpQuiet_nil ?_) | (go_big_quiet_step (fail); refine wpQuiet_nil ?_) | (refine wpQuiet_step (fun K hK => ?_); go_simp; split <;> (refine hK _ ?_; clear hK K; refine wpQuiet_nil ?_))) | (refine wpSeqL_link rfl (fun K hK => ?_); go_simp; first | first | (refine hK _ _ (by show World.grows _ _; repeat (first | assumption | exact grA | apply grB | apply grC | apply grD)) ?_; clear hK K) | (((first | (go_at_call 37; (with_reducible refine (C1.out _ _ (by repeat (with_reducible first | assumption | exact grA | apply grB | apply grC | apply grD | refine grE ?_ (by omega) _ | refine grF ?_ (by omega) _ _)) (HSN.out _ (by first | omega | (simp; omega))) ?_).mono ?_); (simp [go_sem]); rintro e w1 ⟨a5, c5, rfl, hg5, h57, h5b, h5s⟩; have hrw1 : wr.grows w1 := World.grows.trans (by repeat (with_reducible first | assumption | exact grA | apply grB | apply grC | apply grD | refine grE ?_ (by omega) _ | refine grF ?_ (by omega) _ _)) hg5; have q2 := (hrw1.row_eq z2.1).trans hy; have t2 := row_sz' q2; have hs9 := hrw1.below.size; have H5B := Lib.hid h5b; have H5S := Lib.hid h5s; clear h5b h5s hg5) | (go_at_call 37; (with_reducible refine (C2.out _ a5 c5 _ (World.grows.alloc hrw1 _) (HSN.out _ (by omega)) h57 H5B.out (partsG H5S.out (World.grows.alloc World.grows.refl _)) ?_).mono ?_); (simp [go_sem]); rintro e w2 ⟨a6, c6, rfl, hg6, h67, h6b, h6s⟩; have hrw2 : wr.grows w2 := World.grows.trans (World.grows.alloc hrw1 _) hg6; have H6B := Lib.hid h6b; have H6S := Lib.hid h6s; clear h6b h6s hg6))); refine ⟨_, rfl, hK _ _ (by show World.grows _ _; repeat (first | assumption | exact grA | apply grB | apply grC | apply grD)) ?_⟩; clear hK K) | (split <;> (first | (refine hK _ _ (by show World.grows _ _; repeat (first | assumption | exact grA | apply grB | apply grC | apply grD)) ?_; clear hK K) | (((first | (go_at_call 37; (with_reducible refine (C1.out _ _ (by repeat (with_reducible first | assumption | exact grA | apply grB | apply grC | apply grD | refine grE ?_ (by omega) _ | refine grF ?_ (by omega) _ _)) (HSN.out _ (by first | omega | (simp; omega))) ?_).mono ?_); (simp [go_sem]); rintro e w1 ⟨a5, c5, rfl, hg5, h57, h5b, h5s⟩; have hrw1 : wr.grows w1 := World.grows.trans (by repeat (with_reducible first | assumption | exact grA | apply grB | apply grC | apply grD | refine grE ?_ (by omega) _ | refine grF ?_ (by omega) _ _)) hg5; have q2 := (hrw1.row_eq z2.1).trans hy; have t2 := row_sz' q2; have hs9 := hrw1.below.size; have H5B := Lib.hid h5b; have H5S := Lib.hid h5s; clear h5b h5s hg5) | (go_at_call 37; (with_reducible refine (C2.out _ a5 c5 _ (World.grows.alloc hrw1 _) (HSN.out _ (by omega)) h57 H5B.out (partsG H5S.out (World.grows.alloc World.grows.refl _)) ?_).mono ?_); (simp [go_sem]); rintro e w2 ⟨a6, c6, rfl, hg6, h67, h6b, h6s⟩; have hrw2 : wr.grows w2 := World.grows.trans (World.grows.alloc hrw1 _) hg6; have H6B := Lib.hid h6b; have H6S := Lib.hid h6s; clear h6b h6s hg6))); refine ⟨_, rfl, hK _ _ (by show World.grows _ _; repeat (first | assumption | exact grA | apply grB | apply grC | apply grD)) ?_⟩; clear hK K))))))
      all_goals (refine wpSeqL_end ?_)
      have hgw2 : w.grows w2 := World.grows.trans hg hrw2
      have q3 := (hrw2.row_eq z2.1).trans hy
      have t3 := row_sz' q3
      go_wp2_with fail
      (with_reducible show bodyPost _ _ _ _ _ _); exact ret_30 rfl rfl (by simp [go_sem, q3, t3, h67]) rfl ⟨a6, c6, (by simp [go_sem, q3, t3, h67]), (by repeat (with_reducible first | assumption | exact grA | apply grB | apply grC | apply grD | refine grE ?_ (by omega) _ | refine grF ?_ (by omega) _ _)), h67, H6B.out, formS_keep H6S.out (fun g h => ⟨by rw [World.row_setRow, if_neg (HSD.out g h).2.1], (HSD.out g h).1⟩)⟩


end Go.Proofs.Ythmicnjigfcljaa

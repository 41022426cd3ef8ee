/- WALKS over norm: the form of an expression that is a length. No condition but that the expression stands in memory, that it may be, and that it has at most 2^20 nodes. (printed by wip/mkform.py) -/
import Derived.Test.YthmicnjigfcljaaMo
import Derived.Test.YthmicnjigfcljaaNumb
import Derived.Test.YthmicnjigfcljaaMh
set_option linter.unusedSimpArgs false
set_option linter.unusedVariables false
namespace Go.Proofs.Ythmicnjigfcljaa
open Go.RowKit

theorem partsG {w W : World} {S : Nat → Prop} {v : Value} {ps : List (Bool × List Fm)} (h : SlAt w S 2 (PartR (FormOk w S) w S) v ps) (hg : w.grows W) : SlAt W S 2 (PartR (FormOk W S) W S) v ps :=
  h.grows hg (fun x _ cs ⟨v', e, h⟩ => ⟨v', e, h.grows hg (fun f _ cs hf => hf.grows hg)⟩)
def FormIH (m : Nat) : Prop := ∀ (t : Ex) (cs : List Value) (left : Nat) (w : World) (S : Nat → Prop), (∀ g, w.heap.size ≤ g → S g) → ExAt w m t cs → mayE m left t = true → left ≤ 340 → kindE m t = 2 → szE m t ≤ 1048576 →
    Calls Try.prog 52 #[.agg cs.toArray] w (FormP w S (formE m t))
/-- the form at the end of a call: kept where a block that is not of it changes -/
theorem formS_keep {w1 W : World} {S S1 : Nat → Prop} {f : Fm} {v : Value} (h : SlAt w1 S1 2 (PartR (FormOk w1 S1) w1 S1) v f.ps) (hk : ∀ g, S1 g → W.row g = w1.row g ∧ S g) : SlAt W S 2 (PartR (FormOk W S) W S) v f.ps :=
  h.keep (fun g h _ => hk g h) (fun x _ cs ⟨v', e, h⟩ => ⟨v', e, h.keep (fun g h _ => hk g h) (fun f _ cs hf => hf.keep (fun g h _ => hk g h))⟩)

set_option maxRecDepth 100000 in
set_option maxHeartbeats 8000000 in
theorem form_k2 (m : Nat) (IH0 : FormIH m) (kids : List Ex) (a : Option Addr) (cap left : Nat) (w : World) (S : Nat → Prop) (hS : ∀ g, w.heap.size ≤ g → S g) (hlc : kids.length ≤ cap) (hc : cap ≤ 9223372036854775807) (hkids : KidsAt w m kids a)
    (hmay : kids.all (mayE m left) = true) (hleft : left ≤ 340) (hkind : ∀ t ∈ kids, kindE m t = 2) (hsz : szE (m + 1) (.mk 2 0 0 0 kids) ≤ 1048576) (hok : 1 ≤ kids.length) :
    Calls Try.prog 52 #[.agg #[.int .i64 2, .int .i64 0, .int .i64 0, .int .i64 0, .slice a kids.length cap]] w (FormP w S (addF (kids.map (formE m)))) := by
  obtain ⟨S1, hS1⟩ : ∃ S1 : Nat → Prop, ∀ g, S1 g ↔ (S g ∧ g ≠ w.heap.size + 1) := ⟨_, fun _ => Iff.rfl⟩
  have hSn : ∀ g, w.heap.size + 1 + 1 ≤ g → S1 g := fun g h => (hS1 g).2 ⟨hS g (by omega), by omega⟩
  have hSd : ∀ g, S1 g → S g ∧ g ≠ w.heap.size + 1 := fun g h => (hS1 g).1 h
  have HSN := Lib.hid hSn; have HSD := Lib.hid hSd; clear hS1 hSn hSd hS
  have hn : kids.length < 1048576 := Nat.lt_of_lt_of_le szE_kids hsz
  have hfsz : szM (kids.map (formE m)) ≤ 4194304 := by
    have h1 : (kids.map (fun t => szF (formE m t))).sum ≤ 4 * (kids.map (szE m)).sum := sum_le_mul kids fun t ht => szF_formE m left t (List.all_eq_true.1 hmay t ht)
    rw [szM_sum, List.map_map]
    rw [szE] at hsz
    have h2 : (kids.map (szF ∘ formE m)).sum = (kids.map (fun t => szF (formE m t))).sum := rfl
    omega
  have IH1 : ∀ i (hlt : i < kids.length) cs' W T, (∀ g, W.heap.size ≤ g → T g) → ExAt W m kids[i] cs' → Calls Try.prog 52 #[.agg cs'.toArray] W (FormP W T (formE m kids[i])) :=
    fun i hlt cs' W T hT h => IH0 _ _ left _ T hT h (List.all_eq_true.1 hmay _ (List.getElem_mem hlt)) hleft (hkind _ (List.getElem_mem hlt)) (Nat.le_of_lt (Nat.lt_of_lt_of_le (szE_kid (List.getElem_mem hlt)) hsz))
  clear hsz hkind hmay IH0 hok
  generalize formE m = V at *
  have IH := Lib.hid IH1; have HK := Lib.hid hkids; have HFZ := Lib.hid hfsz; clear IH1 hkids hfsz
  go_enter Try.func52, Try.ntmps52
  go_wp2_with fail
  go_loopg [3, 14] kids.length (fun gn v3 v14 wj => ∃ i : Nat, Hid (gn + i = kids.length) ∧ i ≤ kids.length ∧ v14 = .int .i64 i ∧ w.grows wj ∧ wj.row w.heap.size = some (.cells #[.int .i64 2, .int .i64 0, .int .i64 0, .int .i64 0, .slice a kids.length cap] 26) ∧
    wj.row (w.heap.size + 1) = some (.cells (formC (zs 0) (.slice none 0 0)).toArray 30) ∧ Hid (OwnAt wj (w.heap.size + 1 + 1) 30 15 (FormOk wj (exS S1 v3)) v3 ((kids.take i).map V)))
  case atStart => exact ⟨0, rfl, Nat.zero_le _, rfl, (by repeat (with_reducible first | assumption | exact grA | apply grB | apply grC | apply grD | refine grE ?_ (by omega) _ | refine grF ?_ (by omega) _ _)), by simp [go_sem], by simp [go_sem]; rfl, OwnAt_nil _ _ _ _ _⟩
  case round =>
    obtain ⟨i, HGN, hi, rfl, hg, hx, hy, HW⟩ := hrel
    have z1 := row_sz' hx; have z2 := row_sz' hy
    by_cases hlt : i < kids.length
    · rcases HK.out with h | ⟨g, off, rfl, hcell⟩
      · rw [h] at hlt; cases hlt
      obtain ⟨cs', hel, hex⟩ := hcell i kids[i] (by simp [hlt])
      have hl5 := ExAt_len hex
      have he := hel.grows hg
      unfold eltAt at he
      rw [hl5] at he
      have zr := lt_sz (hel.grows hg).lt
      have e3 : segOk (off + i * 5) 5 (wr.row g) = true := he.1
      have e4 : segV (off + i * 5) 5 (wr.row g) = .agg cs'.toArray := he.2
      have c1 : ∀ W, wr.grows W → Calls Try.prog 52 #[.agg cs'.toArray] W (FormP W (exS S1 u3) (V kids[i])) := fun W hW => by
        have hs1 := hW.below.size
        refine IH.out i hlt cs' W _ (fun g hg0 => ⟨HSN.out g (by have := z2.1; omega), fun e => ?_⟩) (hex.grows (hg.trans hW))
        have := (HW.out.lt e).2; omega
      have htk : (kids.take (i + 1)).map V = (kids.take i).map V ++ [V kids[i]] := by
        rw [List.take_succ_eq_append_getElem hlt, List.map_append]; rfl
      obtain ⟨css, p1, p2, p3⟩ := HW.out
      have hli : ((kids.take i).map V).length = i := by rw [List.length_map, List.length_take, Nat.min_eq_left (Nat.le_of_lt hlt)]
      rw [hli] at p3
      have hbs : w.heap.size + 1 + 1 ≤ wr.heap.size := z2.1
      obtain ⟨k0, k1, k2, k3, va, vl, vc, rfl⟩ := ExAt_vals hex
      generalize V kids[i] = F at *
      have C1 := Lib.hid c1; have HTK := Lib.hid htk; have P1 := Lib.hid p1; have P2 := Lib.hid p2; have P3 := Lib.hid p3; have HLI := Lib.hid hli
      clear c1 hel he hex hl5 hcell HK htk p1 p2 p3 hli
      go_wp2_with (first | (go_at_call 52; (with_reducible refine (C1.out _ (by repeat (with_reducible first | assumption | exact grA | apply grB | apply grC | apply grD | refine grE ?_ (by omega) _ | refine grF ?_ (by omega) _ _))).mono ?_); rintro e w1 ⟨a5, c5, rfl, hg5, h57, h5b, h5s⟩; have hrw1 : wr.grows w1 := World.grows.trans (by repeat (with_reducible first | assumption | exact grA | apply grB | apply grC | apply grD | refine grE ?_ (by omega) _ | refine grF ?_ (by omega) _ _)) hg5; have hgw1 : w.grows w1 := World.grows.trans hg hrw1; have q1 := (hrw1.row_eq z1.1).trans hx; have q2 := (hrw1.row_eq z2.1).trans hy; have t1 := row_sz' q1; have t2 := row_sz' q2; have H5B := Lib.hid h5b; have H5S := Lib.hid h5s; clear h5b h5s hg5) | (at_builtin; refine wpList_app w (w.heap.size + 1 + 1) rfl (.tmp 18) (.tmp 21) _ rfl 30 (.agg #[.int .i64 0, .int .i64 0, .int .i64 0, .int .i64 0, .int .i64 0, .int .i64 0, .int .i64 0, .int .i64 0, .int .i64 0, .int .i64 0, .int .i64 0, .int .i64 0, .int .i64 0, .int .i64 0, .slice none 0 0]) 15 136 Try.underlying49 (by kernel_rfl) rfl (by omega) (by omega) _ i _ rfl (P3.out.grows (by repeat (with_reducible first | assumption | exact grA | apply grB | apply grC | apply grD | refine grE ?_ (by omega) _ | refine grF ?_ (by omega) _ _))) _ 1 _ (formC F.us (.slice a5 F.ps.length c5)) rfl (formC_len _ h57) (cells_of_row (e := 30) (fr := (0, 0)) (by simp [go_sem])) (fun u hu => List.all_eq_true.1 (formC_one rfl) u hu) (by omega) (by repeat (with_reducible first | assumption | exact grA | apply grB | apply grC | apply grD | refine grE ?_ (by omega) _ | refine grF ?_ (by omega) _ _)) (by omega) (by simp; omega) ?_; intro v' w' hg' HO' HR' HG' HA'))
      go_wp2_with fail
      go_roundg (kids.length - (i + 1))
      case rel =>
        refine ⟨i + 1, Lib.hid (by omega), by omega, by go_num, hg', (HR'.out _ (by omega)).trans (by simp [go_sem, q1, t1]), (HR'.out _ (by omega)).trans (by simp [go_sem, q2, t2]), Lib.hid ?_⟩
        rw [HTK.out]
        refine forms_append P1.out (fun i x cs hx hc => ⟨(P2.out i x cs hx hc).1, (P2.out i x cs hx hc).2.grows (hrw1.trans (World.grows.alloc World.grows.refl _))⟩) ((FormOk_of_parts h57 H5B.out H5S.out).grows (World.grows.alloc World.grows.refl _)) ?_ HG'.out HA'.out
        rw [HLI.out]
        exact HO'.out
      case measure => have := HGN.out; omega
    · obtain rfl : i = kids.length := by omega
      have hW := HW.out
      rw [List.take_length] at hW
      have hll : (kids.map V).length ≤ 4194304 := by rw [List.length_map]; omega
      have hfl : ((kids.map V).flatMap Fm.ps).length ≤ 33554432 := by
        have h1 := szP_flat (kids.map V)
        have h2 := szP_len ((kids.map V).flatMap Fm.ps)
        have h3 := HFZ.out
        omega
      have c1 : ∀ W, wr.grows W → Calls Try.prog 67 #[u3] W (FormP W S1 (addF (kids.map V))) := fun W hWg => by
        have hs1 := hWg.below.size
        have hnew : ∀ g, W.heap.size ≤ g → S1 g := fun g hg0 => HSN.out g (by have := z2.1; omega)
        have hsl : SlAt W S1 15 (FormOk W S1) u3 (kids.map V) := (hW.forms_mono hWg (T' := S1) (fun g h _ => h.1)).slAt (by omega) (fun g hg0 => HSN.out g (by have := (hW.lt hg0).1; omega))
        exact add_any _ _ W _ hnew hsl hll hfl
      generalize addF (kids.map V) = F at *
      have C1 := Lib.hid c1
      clear c1 hW hll hfl HW
      go_wp2_with (first | (go_at_call 67; (with_reducible refine (C1.out _ (by repeat (with_reducible first | assumption | exact grA | apply grB | apply grC | apply grD | refine grE ?_ (by omega) _ | refine grF ?_ (by omega) _ _))).mono ?_); rintro e w1 ⟨a5, c5, rfl, hg5, h57, h5b, h5s⟩; have hrw1 : wr.grows w1 := World.grows.trans (by repeat (with_reducible first | assumption | exact grA | apply grB | apply grC | apply grD | refine grE ?_ (by omega) _ | refine grF ?_ (by omega) _ _)) hg5; have hgw1 : w.grows w1 := World.grows.trans hg hrw1; have q1 := (hrw1.row_eq z1.1).trans hx; have q2 := (hrw1.row_eq z2.1).trans hy; have t1 := row_sz' q1; have t2 := row_sz' q2; have H5B := Lib.hid h5b; have H5S := Lib.hid h5s; clear h5b h5s hg5))
      (with_reducible show bodyPost _ _ _ _ _ _); exact ret_30 rfl rfl (by simp [go_sem, q2, t2, h57]) rfl ⟨a5, c5, (by simp [go_sem, q2, t2, h57]), (by repeat (with_reducible first | assumption | exact grA | apply grB | apply grC | apply grD | refine grE ?_ (by omega) _ | refine grF ?_ (by omega) _ _)), h57, H5B.out, formS_keep H5S.out (fun g h => ⟨by rw [World.row_setRow, if_neg (HSD.out g h).2], (HSD.out g h).1⟩)⟩

set_option maxRecDepth 100000 in
set_option maxHeartbeats 8000000 in
theorem form_k6 (m : Nat) (IH0 : FormIH m) (kids : List Ex) (a : Option Addr) (cap left : Nat) (w : World) (S : Nat → Prop) (hS : ∀ g, w.heap.size ≤ g → S g) (hlc : kids.length ≤ cap) (hc : cap ≤ 9223372036854775807) (hkids : KidsAt w m kids a)
    (hmay : kids.all (mayE m left) = true) (hleft : left ≤ 340) (hkind : ∀ t ∈ kids, kindE m t = 2) (hsz : szE (m + 1) (.mk 6 0 0 0 kids) ≤ 1048576) (hok : 1 ≤ kids.length) :
    Calls Try.prog 52 #[.agg #[.int .i64 6, .int .i64 0, .int .i64 0, .int .i64 0, .slice a kids.length cap]] w (FormP w S (pickF false (kids.map (formE m)))) := by
  obtain ⟨S1, hS1⟩ : ∃ S1 : Nat → Prop, ∀ g, S1 g ↔ (S g ∧ g ≠ w.heap.size + 1) := ⟨_, fun _ => Iff.rfl⟩
  have hSn : ∀ g, w.heap.size + 1 + 1 ≤ g → S1 g := fun g h => (hS1 g).2 ⟨hS g (by omega), by omega⟩
  have hSd : ∀ g, S1 g → S g ∧ g ≠ w.heap.size + 1 := fun g h => (hS1 g).1 h
  have HSN := Lib.hid hSn; have HSD := Lib.hid hSd; clear hS1 hSn hSd hS
  have hn : kids.length < 1048576 := Nat.lt_of_lt_of_le szE_kids hsz
  have hfsz : szM (kids.map (formE m)) ≤ 4194304 := by
    have h1 : (kids.map (fun t => szF (formE m t))).sum ≤ 4 * (kids.map (szE m)).sum := sum_le_mul kids fun t ht => szF_formE m left t (List.all_eq_true.1 hmay t ht)
    rw [szM_sum, List.map_map]
    rw [szE] at hsz
    have h2 : (kids.map (szF ∘ formE m)).sum = (kids.map (fun t => szF (formE m t))).sum := rfl
    omega
  have IH1 : ∀ i (hlt : i < kids.length) cs' W T, (∀ g, W.heap.size ≤ g → T g) → ExAt W m kids[i] cs' → Calls Try.prog 52 #[.agg cs'.toArray] W (FormP W T (formE m kids[i])) :=
    fun i hlt cs' W T hT h => IH0 _ _ left _ T hT h (List.all_eq_true.1 hmay _ (List.getElem_mem hlt)) hleft (hkind _ (List.getElem_mem hlt)) (Nat.le_of_lt (Nat.lt_of_lt_of_le (szE_kid (List.getElem_mem hlt)) hsz))
  clear hsz hkind hmay IH0 hok
  generalize formE m = V at *
  have IH := Lib.hid IH1; have HK := Lib.hid hkids; have HFZ := Lib.hid hfsz; clear IH1 hkids hfsz
  go_enter Try.func52, Try.ntmps52
  go_wp2_with fail
  go_loopg [3, 14] kids.length (fun gn v3 v14 wj => ∃ i : Nat, Hid (gn + i = kids.length) ∧ i ≤ kids.length ∧ v14 = .int .i64 i ∧ w.grows wj ∧ wj.row w.heap.size = some (.cells #[.int .i64 6, .int .i64 0, .int .i64 0, .int .i64 0, .slice a kids.length cap] 26) ∧
    wj.row (w.heap.size + 1) = some (.cells (formC (zs 0) (.slice none 0 0)).toArray 30) ∧ Hid (OwnAt wj (w.heap.size + 1 + 1) 30 15 (FormOk wj (exS S1 v3)) v3 ((kids.take i).map V)))
  case atStart => exact ⟨0, rfl, Nat.zero_le _, rfl, (by repeat (with_reducible first | assumption | exact grA | apply grB | apply grC | apply grD | refine grE ?_ (by omega) _ | refine grF ?_ (by omega) _ _)), by simp [go_sem], by simp [go_sem]; rfl, OwnAt_nil _ _ _ _ _⟩
  case round =>
    obtain ⟨i, HGN, hi, rfl, hg, hx, hy, HW⟩ := hrel
    have z1 := row_sz' hx; have z2 := row_sz' hy
    by_cases hlt : i < kids.length
    · rcases HK.out with h | ⟨g, off, rfl, hcell⟩
      · rw [h] at hlt; cases hlt
      obtain ⟨cs', hel, hex⟩ := hcell i kids[i] (by simp [hlt])
      have hl5 := ExAt_len hex
      have he := hel.grows hg
      unfold eltAt at he
      rw [hl5] at he
      have zr := lt_sz (hel.grows hg).lt
      have e3 : segOk (off + i * 5) 5 (wr.row g) = true := he.1
      have e4 : segV (off + i * 5) 5 (wr.row g) = .agg cs'.toArray := he.2
      have c1 : ∀ W, wr.grows W → Calls Try.prog 52 #[.agg cs'.toArray] W (FormP W (exS S1 u3) (V kids[i])) := fun W hW => by
        have hs1 := hW.below.size
        refine IH.out i hlt cs' W _ (fun g hg0 => ⟨HSN.out g (by have := z2.1; omega), fun e => ?_⟩) (hex.grows (hg.trans hW))
        have := (HW.out.lt e).2; omega
      have htk : (kids.take (i + 1)).map V = (kids.take i).map V ++ [V kids[i]] := by
        rw [List.take_succ_eq_append_getElem hlt, List.map_append]; rfl
      obtain ⟨css, p1, p2, p3⟩ := HW.out
      have hli : ((kids.take i).map V).length = i := by rw [List.length_map, List.length_take, Nat.min_eq_left (Nat.le_of_lt hlt)]
      rw [hli] at p3
      have hbs : w.heap.size + 1 + 1 ≤ wr.heap.size := z2.1
      obtain ⟨k0, k1, k2, k3, va, vl, vc, rfl⟩ := ExAt_vals hex
      generalize V kids[i] = F at *
      have C1 := Lib.hid c1; have HTK := Lib.hid htk; have P1 := Lib.hid p1; have P2 := Lib.hid p2; have P3 := Lib.hid p3; have HLI := Lib.hid hli
      clear c1 hel he hex hl5 hcell HK htk p1 p2 p3 hli
      go_wp2_with (first | (go_at_call 52; (with_reducible refine (C1.out _ (by repeat (with_reducible first | assumption | exact grA | apply grB | apply grC | apply grD | refine grE ?_ (by omega) _ | refine grF ?_ (by omega) _ _))).mono ?_); rintro e w1 ⟨a5, c5, rfl, hg5, h57, h5b, h5s⟩; have hrw1 : wr.grows w1 := World.grows.trans (by repeat (with_reducible first | assumption | exact grA | apply grB | apply grC | apply grD | refine grE ?_ (by omega) _ | refine grF ?_ (by omega) _ _)) hg5; have hgw1 : w.grows w1 := World.grows.trans hg hrw1; have q1 := (hrw1.row_eq z1.1).trans hx; have q2 := (hrw1.row_eq z2.1).trans hy; have t1 := row_sz' q1; have t2 := row_sz' q2; have H5B := Lib.hid h5b; have H5S := Lib.hid h5s; clear h5b h5s hg5) | (at_builtin; refine wpList_app w (w.heap.size + 1 + 1) rfl (.tmp 18) (.tmp 21) _ rfl 30 (.agg #[.int .i64 0, .int .i64 0, .int .i64 0, .int .i64 0, .int .i64 0, .int .i64 0, .int .i64 0, .int .i64 0, .int .i64 0, .int .i64 0, .int .i64 0, .int .i64 0, .int .i64 0, .int .i64 0, .slice none 0 0]) 15 136 Try.underlying49 (by kernel_rfl) rfl (by omega) (by omega) _ i _ rfl (P3.out.grows (by repeat (with_reducible first | assumption | exact grA | apply grB | apply grC | apply grD | refine grE ?_ (by omega) _ | refine grF ?_ (by omega) _ _))) _ 1 _ (formC F.us (.slice a5 F.ps.length c5)) rfl (formC_len _ h57) (cells_of_row (e := 30) (fr := (0, 0)) (by simp [go_sem])) (fun u hu => List.all_eq_true.1 (formC_one rfl) u hu) (by omega) (by repeat (with_reducible first | assumption | exact grA | apply grB | apply grC | apply grD | refine grE ?_ (by omega) _ | refine grF ?_ (by omega) _ _)) (by omega) (by simp; omega) ?_; intro v' w' hg' HO' HR' HG' HA'))
      go_wp2_with fail
      go_roundg (kids.length - (i + 1))
      case rel =>
        refine ⟨i + 1, Lib.hid (by omega), by omega, by go_num, hg', (HR'.out _ (by omega)).trans (by simp [go_sem, q1, t1]), (HR'.out _ (by omega)).trans (by simp [go_sem, q2, t2]), Lib.hid ?_⟩
        rw [HTK.out]
        refine forms_append P1.out (fun i x cs hx hc => ⟨(P2.out i x cs hx hc).1, (P2.out i x cs hx hc).2.grows (hrw1.trans (World.grows.alloc World.grows.refl _))⟩) ((FormOk_of_parts h57 H5B.out H5S.out).grows (World.grows.alloc World.grows.refl _)) ?_ HG'.out HA'.out
        rw [HLI.out]
        exact HO'.out
      case measure => have := HGN.out; omega
    · obtain rfl : i = kids.length := by omega
      have hW := HW.out
      rw [List.take_length] at hW
      have hll : (kids.map V).length ≤ 4194304 := by rw [List.length_map]; omega
      have hfl : ((kids.map V).flatMap Fm.ps).length ≤ 33554432 := by
        have h1 := szP_flat (kids.map V)
        have h2 := szP_len ((kids.map V).flatMap Fm.ps)
        have h3 := HFZ.out
        omega
      have c1 : ∀ W, wr.grows W → Calls Try.prog 70 #[.bool false, u3] W (FormP W S1 (pickF false (kids.map V))) := fun W hWg => by
        have hs1 := hWg.below.size
        have hnew : ∀ g, W.heap.size ≤ g → S1 g := fun g hg0 => HSN.out g (by have := z2.1; omega)
        have hsl : SlAt W S1 15 (FormOk W S1) u3 (kids.map V) := (hW.forms_mono hWg (T' := S1) (fun g h _ => h.1)).slAt (by omega) (fun g hg0 => HSN.out g (by have := (hW.lt hg0).1; omega))
        exact pick_any _ _ _ W _ hnew hsl hll
      generalize pickF false (kids.map V) = F at *
      have C1 := Lib.hid c1
      clear c1 hW hll hfl HW
      go_wp2_with (first | (go_at_call 70; (with_reducible refine (C1.out _ (by repeat (with_reducible first | assumption | exact grA | apply grB | apply grC | apply grD | refine grE ?_ (by omega) _ | refine grF ?_ (by omega) _ _))).mono ?_); rintro e w1 ⟨a5, c5, rfl, hg5, h57, h5b, h5s⟩; have hrw1 : wr.grows w1 := World.grows.trans (by repeat (with_reducible first | assumption | exact grA | apply grB | apply grC | apply grD | refine grE ?_ (by omega) _ | refine grF ?_ (by omega) _ _)) hg5; have hgw1 : w.grows w1 := World.grows.trans hg hrw1; have q1 := (hrw1.row_eq z1.1).trans hx; have q2 := (hrw1.row_eq z2.1).trans hy; have t1 := row_sz' q1; have t2 := row_sz' q2; have H5B := Lib.hid h5b; have H5S := Lib.hid h5s; clear h5b h5s hg5))
      (with_reducible show bodyPost _ _ _ _ _ _); exact ret_30 rfl rfl (by simp [go_sem, q2, t2, h57]) rfl ⟨a5, c5, (by simp [go_sem, q2, t2, h57]), (by repeat (with_reducible first | assumption | exact grA | apply grB | apply grC | apply grD | refine grE ?_ (by omega) _ | refine grF ?_ (by omega) _ _)), h57, H5B.out, formS_keep H5S.out (fun g h => ⟨by rw [World.row_setRow, if_neg (HSD.out g h).2], (HSD.out g h).1⟩)⟩

set_option maxRecDepth 100000 in
set_option maxHeartbeats 8000000 in
theorem form_k7 (m : Nat) (IH0 : FormIH m) (kids : List Ex) (a : Option Addr) (cap left : Nat) (w : World) (S : Nat → Prop) (hS : ∀ g, w.heap.size ≤ g → S g) (hlc : kids.length ≤ cap) (hc : cap ≤ 9223372036854775807) (hkids : KidsAt w m kids a)
    (hmay : kids.all (mayE m left) = true) (hleft : left ≤ 340) (hkind : ∀ t ∈ kids, kindE m t = 2) (hsz : szE (m + 1) (.mk 7 0 0 0 kids) ≤ 1048576) (hok : 1 ≤ kids.length) :
    Calls Try.prog 52 #[.agg #[.int .i64 7, .int .i64 0, .int .i64 0, .int .i64 0, .slice a kids.length cap]] w (FormP w S (pickF true (kids.map (formE m)))) := by
  obtain ⟨S1, hS1⟩ : ∃ S1 : Nat → Prop, ∀ g, S1 g ↔ (S g ∧ g ≠ w.heap.size + 1) := ⟨_, fun _ => Iff.rfl⟩
  have hSn : ∀ g, w.heap.size + 1 + 1 ≤ g → S1 g := fun g h => (hS1 g).2 ⟨hS g (by omega), by omega⟩
  have hSd : ∀ g, S1 g → S g ∧ g ≠ w.heap.size + 1 := fun g h => (hS1 g).1 h
  have HSN := Lib.hid hSn; have HSD := Lib.hid hSd; clear hS1 hSn hSd hS
  have hn : kids.length < 1048576 := Nat.lt_of_lt_of_le szE_kids hsz
  have hfsz : szM (kids.map (formE m)) ≤ 4194304 := by
    have h1 : (kids.map (fun t => szF (formE m t))).sum ≤ 4 * (kids.map (szE m)).sum := sum_le_mul kids fun t ht => szF_formE m left t (List.all_eq_true.1 hmay t ht)
    rw [szM_sum, List.map_map]
    rw [szE] at hsz
    have h2 : (kids.map (szF ∘ formE m)).sum = (kids.map (fun t => szF (formE m t))).sum := rfl
    omega
  have IH1 : ∀ i (hlt : i < kids.length) cs' W T, (∀ g, W.heap.size ≤ g → T g) → ExAt W m kids[i] cs' → Calls Try.prog 52 #[.agg cs'.toArray] W (FormP W T (formE m kids[i])) :=
    fun i hlt cs' W T hT h => IH0 _ _ left _ T hT h (List.all_eq_true.1 hmay _ (List.getElem_mem hlt)) hleft (hkind _ (List.getElem_mem hlt)) (Nat.le_of_lt (Nat.lt_of_lt_of_le (szE_kid (List.getElem_mem hlt)) hsz))
  clear hsz hkind hmay IH0 hok
  generalize formE m = V at *
  have IH := Lib.hid IH1; have HK := Lib.hid hkids; have HFZ := Lib.hid hfsz; clear IH1 hkids hfsz
  go_enter Try.func52, Try.ntmps52
  go_wp2_with fail
  go_loopg [3, 14] kids.length (fun gn v3 v14 wj => ∃ i : Nat, Hid (gn + i = kids.length) ∧ i ≤ kids.length ∧ v14 = .int .i64 i ∧ w.grows wj ∧ wj.row w.heap.size = some (.cells #[.int .i64 7, .int .i64 0, .int .i64 0, .int .i64 0, .slice a kids.length cap] 26) ∧
    wj.row (w.heap.size + 1) = some (.cells (formC (zs 0) (.slice none 0 0)).toArray 30) ∧ Hid (OwnAt wj (w.heap.size + 1 + 1) 30 15 (FormOk wj (exS S1 v3)) v3 ((kids.take i).map V)))
  case atStart => exact ⟨0, rfl, Nat.zero_le _, rfl, (by repeat (with_reducible first | assumption | exact grA | apply grB | apply grC | apply grD | refine grE ?_ (by omega) _ | refine grF ?_ (by omega) _ _)), by simp [go_sem], by simp [go_sem]; rfl, OwnAt_nil _ _ _ _ _⟩
  case round =>
    obtain ⟨i, HGN, hi, rfl, hg, hx, hy, HW⟩ := hrel
    have z1 := row_sz' hx; have z2 := row_sz' hy
    by_cases hlt : i < kids.length
    · rcases HK.out with h | ⟨g, off, rfl, hcell⟩
      · rw [h] at hlt; cases hlt
      obtain ⟨cs', hel, hex⟩ := hcell i kids[i] (by simp [hlt])
      have hl5 := ExAt_len hex
      have he := hel.grows hg
      unfold eltAt at he
      rw [hl5] at he
      have zr := lt_sz (hel.grows hg).lt
      have e3 : segOk (off + i * 5) 5 (wr.row g) = true := he.1
      have e4 : segV (off + i * 5) 5 (wr.row g) = .agg cs'.toArray := he.2
      have c1 : ∀ W, wr.grows W → Calls Try.prog 52 #[.agg cs'.toArray] W (FormP W (exS S1 u3) (V kids[i])) := fun W hW => by
        have hs1 := hW.below.size
        refine IH.out i hlt cs' W _ (fun g hg0 => ⟨HSN.out g (by have := z2.1; omega), fun e => ?_⟩) (hex.grows (hg.trans hW))
        have := (HW.out.lt e).2; omega
      have htk : (kids.take (i + 1)).map V = (kids.take i).map V ++ [V kids[i]] := by
        rw [List.take_succ_eq_append_getElem hlt, List.map_append]; rfl
      obtain ⟨css, p1, p2, p3⟩ := HW.out
      have hli : ((kids.take i).map V).length = i := by rw [List.length_map, List.length_take, Nat.min_eq_left (Nat.le_of_lt hlt)]
      rw [hli] at p3
      have hbs : w.heap.size + 1 + 1 ≤ wr.heap.size := z2.1
      obtain ⟨k0, k1, k2, k3, va, vl, vc, rfl⟩ := ExAt_vals hex
      generalize V kids[i] = F at *
      have C1 := Lib.hid c1; have HTK := Lib.hid htk; have P1 := Lib.hid p1; have P2 := Lib.hid p2; have P3 := Lib.hid p3; have HLI := Lib.hid hli
      clear c1 hel he hex hl5 hcell HK htk p1 p2 p3 hli
      go_wp2_with (first | (go_at_call 52; (with_reducible refine (C1.out _ (by repeat (with_reducible first | assumption | exact grA | apply grB | apply grC | apply grD | refine grE ?_ (by omega) _ | refine grF ?_ (by omega) _ _))).mono ?_); rintro e w1 ⟨a5, c5, rfl, hg5, h57, h5b, h5s⟩; have hrw1 : wr.grows w1 := World.grows.trans (by repeat (with_reducible first | assumption | exact grA | apply grB | apply grC | apply grD | refine grE ?_ (by omega) _ | refine grF ?_ (by omega) _ _)) hg5; have hgw1 : w.grows w1 := World.grows.trans hg hrw1; have q1 := (hrw1.row_eq z1.1).trans hx; have q2 := (hrw1.row_eq z2.1).trans hy; have t1 := row_sz' q1; have t2 := row_sz' q2; have H5B := Lib.hid h5b; have H5S := Lib.hid h5s; clear h5b h5s hg5) | (at_builtin; refine wpList_app w (w.heap.size + 1 + 1) rfl (.tmp 18) (.tmp 21) _ rfl 30 (.agg #[.int .i64 0, .int .i64 0, .int .i64 0, .int .i64 0, .int .i64 0, .int .i64 0, .int .i64 0, .int .i64 0, .int .i64 0, .int .i64 0, .int .i64 0, .int .i64 0, .int .i64 0, .int .i64 0, .slice none 0 0]) 15 136 Try.underlying49 (by kernel_rfl) rfl (by omega) (by omega) _ i _ rfl (P3.out.grows (by repeat (with_reducible first | assumption | exact grA | apply grB | apply grC | apply grD | refine grE ?_ (by omega) _ | refine grF ?_ (by omega) _ _))) _ 1 _ (formC F.us (.slice a5 F.ps.length c5)) rfl (formC_len _ h57) (cells_of_row (e := 30) (fr := (0, 0)) (by simp [go_sem])) (fun u hu => List.all_eq_true.1 (formC_one rfl) u hu) (by omega) (by repeat (with_reducible first | assumption | exact grA | apply grB | apply grC | apply grD | refine grE ?_ (by omega) _ | refine grF ?_ (by omega) _ _)) (by omega) (by simp; omega) ?_; intro v' w' hg' HO' HR' HG' HA'))
      go_wp2_with fail
      go_roundg (kids.length - (i + 1))
      case rel =>
        refine ⟨i + 1, Lib.hid (by omega), by omega, by go_num, hg', (HR'.out _ (by omega)).trans (by simp [go_sem, q1, t1]), (HR'.out _ (by omega)).trans (by simp [go_sem, q2, t2]), Lib.hid ?_⟩
        rw [HTK.out]
        refine forms_append P1.out (fun i x cs hx hc => ⟨(P2.out i x cs hx hc).1, (P2.out i x cs hx hc).2.grows (hrw1.trans (World.grows.alloc World.grows.refl _))⟩) ((FormOk_of_parts h57 H5B.out H5S.out).grows (World.grows.alloc World.grows.refl _)) ?_ HG'.out HA'.out
        rw [HLI.out]
        exact HO'.out
      case measure => have := HGN.out; omega
    · obtain rfl : i = kids.length := by omega
      have hW := HW.out
      rw [List.take_length] at hW
      have hll : (kids.map V).length ≤ 4194304 := by rw [List.length_map]; omega
      have hfl : ((kids.map V).flatMap Fm.ps).length ≤ 33554432 := by
        have h1 := szP_flat (kids.map V)
        have h2 := szP_len ((kids.map V).flatMap Fm.ps)
        have h3 := HFZ.out
        omega
      have c1 : ∀ W, wr.grows W → Calls Try.prog 70 #[.bool true, u3] W (FormP W S1 (pickF true (kids.map V))) := fun W hWg => by
        have hs1 := hWg.below.size
        have hnew : ∀ g, W.heap.size ≤ g → S1 g := fun g hg0 => HSN.out g (by have := z2.1; omega)
        have hsl : SlAt W S1 15 (FormOk W S1) u3 (kids.map V) := (hW.forms_mono hWg (T' := S1) (fun g h _ => h.1)).slAt (by omega) (fun g hg0 => HSN.out g (by have := (hW.lt hg0).1; omega))
        exact pick_any _ _ _ W _ hnew hsl hll
      generalize pickF true (kids.map V) = F at *
      have C1 := Lib.hid c1
      clear c1 hW hll hfl HW
      go_wp2_with (first | (go_at_call 70; (with_reducible refine (C1.out _ (by repeat (with_reducible first | assumption | exact grA | apply grB | apply grC | apply grD | refine grE ?_ (by omega) _ | refine grF ?_ (by omega) _ _))).mono ?_); rintro e w1 ⟨a5, c5, rfl, hg5, h57, h5b, h5s⟩; have hrw1 : wr.grows w1 := World.grows.trans (by repeat (with_reducible first | assumption | exact grA | apply grB | apply grC | apply grD | refine grE ?_ (by omega) _ | refine grF ?_ (by omega) _ _)) hg5; have hgw1 : w.grows w1 := World.grows.trans hg hrw1; have q1 := (hrw1.row_eq z1.1).trans hx; have q2 := (hrw1.row_eq z2.1).trans hy; have t1 := row_sz' q1; have t2 := row_sz' q2; have H5B := Lib.hid h5b; have H5S := Lib.hid h5s; clear h5b h5s hg5))
      (with_reducible show bodyPost _ _ _ _ _ _); exact ret_30 rfl rfl (by simp [go_sem, q2, t2, h57]) rfl ⟨a5, c5, (by simp [go_sem, q2, t2, h57]), (by repeat (with_reducible first | assumption | exact grA | apply grB | apply grC | apply grD | refine grE ?_ (by omega) _ | refine grF ?_ (by omega) _ _)), h57, H5B.out, formS_keep H5S.out (fun g h => ⟨by rw [World.row_setRow, if_neg (HSD.out g h).2], (HSD.out g h).1⟩)⟩

set_option maxRecDepth 100000 in
set_option maxHeartbeats 8000000 in
theorem form_k3 (m : Nat) (IH0 : FormIH m) (kids : List Ex) (a : Option Addr) (cap left : Nat) (w : World) (S : Nat → Prop) (hS : ∀ g, w.heap.size ≤ g → S g) (hlc : 1 ≤ cap) (hc : cap ≤ 9223372036854775807) (hkids : KidsAt w m kids a)
    (hmay : kids.all (mayE m left) = true) (hleft : left ≤ 340) (hkind : ∀ t ∈ kids, kindE m t = 2) (hsz : szE (m + 1) (.mk 3 0 0 0 kids) ≤ 1048576) (hok : kids.length = 1) :
    Calls Try.prog 52 #[.agg #[.int .i64 3, .int .i64 0, .int .i64 0, .int .i64 0, .slice a 1 cap]] w (FormP w S (scaleF (-1, 1) ((kids.map (formE m)).getD 0 zeroF))) := by
  obtain ⟨S1, hS1⟩ : ∃ S1 : Nat → Prop, ∀ g, S1 g ↔ (S g ∧ g ≠ w.heap.size + 1) := ⟨_, fun _ => Iff.rfl⟩
  have hSn : ∀ g, w.heap.size + 1 + 1 ≤ g → S1 g := fun g h => (hS1 g).2 ⟨hS g (by omega), by omega⟩
  have hSd : ∀ g, S1 g → S g ∧ g ≠ w.heap.size + 1 := fun g h => (hS1 g).1 h
  have HSN := Lib.hid hSn; have HSD := Lib.hid hSd; clear hS1 hSn hSd hS
  have hn : kids.length < 1048576 := Nat.lt_of_lt_of_le szE_kids hsz
  have hfsz : szM (kids.map (formE m)) ≤ 4194304 := by
    have h1 : (kids.map (fun t => szF (formE m t))).sum ≤ 4 * (kids.map (szE m)).sum := sum_le_mul kids fun t ht => szF_formE m left t (List.all_eq_true.1 hmay t ht)
    rw [szM_sum, List.map_map]
    rw [szE] at hsz
    have h2 : (kids.map (szF ∘ formE m)).sum = (kids.map (fun t => szF (formE m t))).sum := rfl
    omega
  have IH1 : ∀ i (hlt : i < kids.length) cs' W T, (∀ g, W.heap.size ≤ g → T g) → ExAt W m kids[i] cs' → Calls Try.prog 52 #[.agg cs'.toArray] W (FormP W T (formE m kids[i])) :=
    fun i hlt cs' W T hT h => IH0 _ _ left _ T hT h (List.all_eq_true.1 hmay _ (List.getElem_mem hlt)) hleft (hkind _ (List.getElem_mem hlt)) (Nat.le_of_lt (Nat.lt_of_lt_of_le (szE_kid (List.getElem_mem hlt)) hsz))
  clear hsz hkind hmay IH0
  generalize formE m = V at *
  have IH := Lib.hid IH1; have HK := Lib.hid hkids; have HFZ := Lib.hid hfsz; clear IH1 hkids hfsz
  have HL := Lib.hid hok; rw [hok] at hn; clear hok
  go_enter Try.func52, Try.ntmps52
  go_wp2_with fail
  go_loopg [3, 14] 1 (fun gn v3 v14 wj => ∃ i : Nat, Hid (gn + i = 1) ∧ i ≤ 1 ∧ v14 = .int .i64 i ∧ w.grows wj ∧ wj.row w.heap.size = some (.cells #[.int .i64 3, .int .i64 0, .int .i64 0, .int .i64 0, .slice a 1 cap] 26) ∧
    wj.row (w.heap.size + 1) = some (.cells (formC (zs 0) (.slice none 0 0)).toArray 30) ∧ Hid (OwnAt wj (w.heap.size + 1 + 1) 30 15 (FormOk wj (exS S1 v3)) v3 ((kids.take i).map V)))
  case atStart => exact ⟨0, rfl, Nat.zero_le _, rfl, (by repeat (with_reducible first | assumption | exact grA | apply grB | apply grC | apply grD | refine grE ?_ (by omega) _ | refine grF ?_ (by omega) _ _)), by simp [go_sem], by simp [go_sem]; rfl, OwnAt_nil _ _ _ _ _⟩
  case round =>
    obtain ⟨i, HGN, hi, rfl, hg, hx, hy, HW⟩ := hrel
    have z1 := row_sz' hx; have z2 := row_sz' hy
    by_cases hlt0 : i < 1
    · have hlt : i < kids.length := by rw [HL.out]; exact hlt0
      rcases HK.out with h | ⟨g, off, rfl, hcell⟩
      · rw [h] at hlt; cases hlt
      obtain ⟨cs', hel, hex⟩ := hcell i kids[i] (by simp [hlt])
      have hl5 := ExAt_len hex
      have he := hel.grows hg
      unfold eltAt at he
      rw [hl5] at he
      have zr := lt_sz (hel.grows hg).lt
      have e3 : segOk (off + i * 5) 5 (wr.row g) = true := he.1
      have e4 : segV (off + i * 5) 5 (wr.row g) = .agg cs'.toArray := he.2
      have c1 : ∀ W, wr.grows W → Calls Try.prog 52 #[.agg cs'.toArray] W (FormP W (exS S1 u3) (V kids[i])) := fun W hW => by
        have hs1 := hW.below.size
        refine IH.out i hlt cs' W _ (fun g hg0 => ⟨HSN.out g (by have := z2.1; omega), fun e => ?_⟩) (hex.grows (hg.trans hW))
        have := (HW.out.lt e).2; omega
      have htk : (kids.take (i + 1)).map V = (kids.take i).map V ++ [V kids[i]] := by
        rw [List.take_succ_eq_append_getElem hlt, List.map_append]; rfl
      obtain ⟨css, p1, p2, p3⟩ := HW.out
      have hli : ((kids.take i).map V).length = i := by rw [List.length_map, List.length_take, Nat.min_eq_left (Nat.le_of_lt hlt)]
      rw [hli] at p3
      have hbs : w.heap.size + 1 + 1 ≤ wr.heap.size := z2.1
      obtain ⟨k0, k1, k2, k3, va, vl, vc, rfl⟩ := ExAt_vals hex
      generalize V kids[i] = F at *
      have C1 := Lib.hid c1; have HTK := Lib.hid htk; have P1 := Lib.hid p1; have P2 := Lib.hid p2; have P3 := Lib.hid p3; have HLI := Lib.hid hli
      clear c1 hel he hex hl5 hcell HK htk p1 p2 p3 hli
      go_wp2_with (first | (go_at_call 52; (with_reducible refine (C1.out _ (by repeat (with_reducible first | assumption | exact grA | apply grB | apply grC | apply grD | refine grE ?_ (by omega) _ | refine grF ?_ (by omega) _ _))).mono ?_); rintro e w1 ⟨a5, c5, rfl, hg5, h57, h5b, h5s⟩; have hrw1 : wr.grows w1 := World.grows.trans (by repeat (with_reducible first | assumption | exact grA | apply grB | apply grC | apply grD | refine grE ?_ (by omega) _ | refine grF ?_ (by omega) _ _)) hg5; have hgw1 : w.grows w1 := World.grows.trans hg hrw1; have q1 := (hrw1.row_eq z1.1).trans hx; have q2 := (hrw1.row_eq z2.1).trans hy; have t1 := row_sz' q1; have t2 := row_sz' q2; have H5B := Lib.hid h5b; have H5S := Lib.hid h5s; clear h5b h5s hg5) | (at_builtin; refine wpList_app w (w.heap.size + 1 + 1) rfl (.tmp 18) (.tmp 21) _ rfl 30 (.agg #[.int .i64 0, .int .i64 0, .int .i64 0, .int .i64 0, .int .i64 0, .int .i64 0, .int .i64 0, .int .i64 0, .int .i64 0, .int .i64 0, .int .i64 0, .int .i64 0, .int .i64 0, .int .i64 0, .slice none 0 0]) 15 136 Try.underlying49 (by kernel_rfl) rfl (by omega) (by omega) _ i _ rfl (P3.out.grows (by repeat (with_reducible first | assumption | exact grA | apply grB | apply grC | apply grD | refine grE ?_ (by omega) _ | refine grF ?_ (by omega) _ _))) _ 1 _ (formC F.us (.slice a5 F.ps.length c5)) rfl (formC_len _ h57) (cells_of_row (e := 30) (fr := (0, 0)) (by simp [go_sem])) (fun u hu => List.all_eq_true.1 (formC_one rfl) u hu) (by omega) (by repeat (with_reducible first | assumption | exact grA | apply grB | apply grC | apply grD | refine grE ?_ (by omega) _ | refine grF ?_ (by omega) _ _)) (by omega) (by simp; omega) ?_; intro v' w' hg' HO' HR' HG' HA'))
      go_wp2_with fail
      go_roundg (1 - (i + 1))
      case rel =>
        refine ⟨i + 1, Lib.hid (by omega), by omega, by go_num, hg', (HR'.out _ (by omega)).trans (by simp [go_sem, q1, t1]), (HR'.out _ (by omega)).trans (by simp [go_sem, q2, t2]), Lib.hid ?_⟩
        rw [HTK.out]
        refine forms_append P1.out (fun i x cs hx hc => ⟨(P2.out i x cs hx hc).1, (P2.out i x cs hx hc).2.grows (hrw1.trans (World.grows.alloc World.grows.refl _))⟩) ((FormOk_of_parts h57 H5B.out H5S.out).grows (World.grows.alloc World.grows.refl _)) ?_ HG'.out HA'.out
        rw [HLI.out]
        exact HO'.out
      case measure => have := HGN.out; omega
    · obtain rfl : i = 1 := by omega
      have hW := HW.out
      rw [List.take_of_length_le (by rw [HL.out]; exact Nat.le_refl _)] at hW
      have hfz := HFZ.out
      obtain ⟨f, hf⟩ : ∃ f, kids.map V = [f] := len_one (by rw [List.length_map]; exact HL.out)
      rw [hf] at hW hfz
      have hgd : (kids.map V).getD 0 zeroF = f := by rw [hf]; rfl
      have hsl0 : SlAt wr S1 15 (FormOk wr S1) u3 [f] := (hW.forms_mono World.grows.refl (T' := S1) (fun g h _ => h.1)).slAt (by omega) (fun g hg0 => HSN.out g (by have := (hW.lt hg0).1; omega))
      rw [szM, szM] at hfz
      obtain ⟨g', off', cap', us, a1, n1, c1', ps, rfl, hc1, hc2, rfl, hn1, hu7, hub, hg3, eo, ev, hsl⟩ := slAt_one hsl0
      have c1 : ∀ W, wr.grows W → Calls Try.prog 63 #[.agg (formC us (.slice a1 n1 c1')).toArray, .agg #[.int .i64 (-1), .int .i64 1]] W (FormP W S1 (scaleF (-1, 1) ((kids.map V).getD 0 zeroF))) := fun W hWg => by
        have hs1 := hWg.below.size
        rw [hgd]
        exact scale_any _ _ _ _ W _ (fun g hg0 => HSN.out g (by have := z2.1; omega)) ((FormOk_form hu7 hub hsl).grows hWg) (by unfold I64; omega) (by unfold I64; omega) (by omega)
      have zg := lt_sz hg3
      generalize scaleF (-1, 1) ((kids.map V).getD 0 zeroF) = F at *
      have C1 := Lib.hid c1
      clear c1 hW HW hfz hf hgd hsl0 hsl hub hn1 hg3 HL
      go_wp2_with (first | (go_at_call 63; (with_reducible refine (C1.out _ (by repeat (with_reducible first | assumption | exact grA | apply grB | apply grC | apply grD | refine grE ?_ (by omega) _ | refine grF ?_ (by omega) _ _))).mono ?_); rintro e w1 ⟨a5, c5, rfl, hg5, h57, h5b, h5s⟩; have hrw1 : wr.grows w1 := World.grows.trans (by repeat (with_reducible first | assumption | exact grA | apply grB | apply grC | apply grD | refine grE ?_ (by omega) _ | refine grF ?_ (by omega) _ _)) hg5; have hgw1 : w.grows w1 := World.grows.trans hg hrw1; have q1 := (hrw1.row_eq z1.1).trans hx; have q2 := (hrw1.row_eq z2.1).trans hy; have t1 := row_sz' q1; have t2 := row_sz' q2; have H5B := Lib.hid h5b; have H5S := Lib.hid h5s; clear h5b h5s hg5))
      (with_reducible show bodyPost _ _ _ _ _ _); exact ret_30 rfl rfl (by simp [go_sem, q2, t2, h57]) rfl ⟨a5, c5, (by simp [go_sem, q2, t2, h57]), (by repeat (with_reducible first | assumption | exact grA | apply grB | apply grC | apply grD | refine grE ?_ (by omega) _ | refine grF ?_ (by omega) _ _)), h57, H5B.out, formS_keep H5S.out (fun g h => ⟨by rw [World.row_setRow, if_neg (HSD.out g h).2], (HSD.out g h).1⟩)⟩

set_option maxRecDepth 100000 in
set_option maxHeartbeats 8000000 in
theorem form_k8 (m : Nat) (IH0 : FormIH m) (kids : List Ex) (a : Option Addr) (cap left : Nat) (w : World) (S : Nat → Prop) (hS : ∀ g, w.heap.size ≤ g → S g) (hlc : 3 ≤ cap) (hc : cap ≤ 9223372036854775807) (hkids : KidsAt w m kids a)
    (hmay : kids.all (mayE m left) = true) (hleft : left ≤ 340) (hkind : ∀ t ∈ kids, kindE m t = 2) (hsz : szE (m + 1) (.mk 8 0 0 0 kids) ≤ 1048576) (hok : kids.length = 3) :
    Calls Try.prog 52 #[.agg #[.int .i64 8, .int .i64 0, .int .i64 0, .int .i64 0, .slice a 3 cap]] w (FormP w S (pickF true [(kids.map (formE m)).getD 0 zeroF, pickF false ((kids.map (formE m)).drop 1)])) := by
  obtain ⟨S1, hS1⟩ : ∃ S1 : Nat → Prop, ∀ g, S1 g ↔ (S g ∧ g ≠ w.heap.size + 1) := ⟨_, fun _ => Iff.rfl⟩
  have hSn : ∀ g, w.heap.size + 1 + 1 ≤ g → S1 g := fun g h => (hS1 g).2 ⟨hS g (by omega), by omega⟩
  have hSd : ∀ g, S1 g → S g ∧ g ≠ w.heap.size + 1 := fun g h => (hS1 g).1 h
  have HSN := Lib.hid hSn; have HSD := Lib.hid hSd; clear hS1 hSn hSd hS
  have hn : kids.length < 1048576 := Nat.lt_of_lt_of_le szE_kids hsz
  have hfsz : szM (kids.map (formE m)) ≤ 4194304 := by
    have h1 : (kids.map (fun t => szF (formE m t))).sum ≤ 4 * (kids.map (szE m)).sum := sum_le_mul kids fun t ht => szF_formE m left t (List.all_eq_true.1 hmay t ht)
    rw [szM_sum, List.map_map]
    rw [szE] at hsz
    have h2 : (kids.map (szF ∘ formE m)).sum = (kids.map (fun t => szF (formE m t))).sum := rfl
    omega
  have IH1 : ∀ i (hlt : i < kids.length) cs' W T, (∀ g, W.heap.size ≤ g → T g) → ExAt W m kids[i] cs' → Calls Try.prog 52 #[.agg cs'.toArray] W (FormP W T (formE m kids[i])) :=
    fun i hlt cs' W T hT h => IH0 _ _ left _ T hT h (List.all_eq_true.1 hmay _ (List.getElem_mem hlt)) hleft (hkind _ (List.getElem_mem hlt)) (Nat.le_of_lt (Nat.lt_of_lt_of_le (szE_kid (List.getElem_mem hlt)) hsz))
  clear hsz hkind hmay IH0
  generalize formE m = V at *
  have IH := Lib.hid IH1; have HK := Lib.hid hkids; have HFZ := Lib.hid hfsz; clear IH1 hkids hfsz
  have HL := Lib.hid hok; rw [hok] at hn; clear hok
  go_enter Try.func52, Try.ntmps52
  go_wp2_with fail
  go_loopg [3, 14] 3 (fun gn v3 v14 wj => ∃ i : Nat, Hid (gn + i = 3) ∧ i ≤ 3 ∧ v14 = .int .i64 i ∧ w.grows wj ∧ wj.row w.heap.size = some (.cells #[.int .i64 8, .int .i64 0, .int .i64 0, .int .i64 0, .slice a 3 cap] 26) ∧
    wj.row (w.heap.size + 1) = some (.cells (formC (zs 0) (.slice none 0 0)).toArray 30) ∧ Hid (OwnAt wj (w.heap.size + 1 + 1) 30 15 (FormOk wj (exS S1 v3)) v3 ((kids.take i).map V)))
  case atStart => exact ⟨0, rfl, Nat.zero_le _, rfl, (by repeat (with_reducible first | assumption | exact grA | apply grB | apply grC | apply grD | refine grE ?_ (by omega) _ | refine grF ?_ (by omega) _ _)), by simp [go_sem], by simp [go_sem]; rfl, OwnAt_nil _ _ _ _ _⟩
  case round =>
    obtain ⟨i, HGN, hi, rfl, hg, hx, hy, HW⟩ := hrel
    have z1 := row_sz' hx; have z2 := row_sz' hy
    by_cases hlt0 : i < 3
    · have hlt : i < kids.length := by rw [HL.out]; exact hlt0
      rcases HK.out with h | ⟨g, off, rfl, hcell⟩
      · rw [h] at hlt; cases hlt
      obtain ⟨cs', hel, hex⟩ := hcell i kids[i] (by simp [hlt])
      have hl5 := ExAt_len hex
      have he := hel.grows hg
      unfold eltAt at he
      rw [hl5] at he
      have zr := lt_sz (hel.grows hg).lt
      have e3 : segOk (off + i * 5) 5 (wr.row g) = true := he.1
      have e4 : segV (off + i * 5) 5 (wr.row g) = .agg cs'.toArray := he.2
      have c1 : ∀ W, wr.grows W → Calls Try.prog 52 #[.agg cs'.toArray] W (FormP W (exS S1 u3) (V kids[i])) := fun W hW => by
        have hs1 := hW.below.size
        refine IH.out i hlt cs' W _ (fun g hg0 => ⟨HSN.out g (by have := z2.1; omega), fun e => ?_⟩) (hex.grows (hg.trans hW))
        have := (HW.out.lt e).2; omega
      have htk : (kids.take (i + 1)).map V = (kids.take i).map V ++ [V kids[i]] := by
        rw [List.take_succ_eq_append_getElem hlt, List.map_append]; rfl
      obtain ⟨css, p1, p2, p3⟩ := HW.out
      have hli : ((kids.take i).map V).length = i := by rw [List.length_map, List.length_take, Nat.min_eq_left (Nat.le_of_lt hlt)]
      rw [hli] at p3
      have hbs : w.heap.size + 1 + 1 ≤ wr.heap.size := z2.1
      obtain ⟨k0, k1, k2, k3, va, vl, vc, rfl⟩ := ExAt_vals hex
      generalize V kids[i] = F at *
      have C1 := Lib.hid c1; have HTK := Lib.hid htk; have P1 := Lib.hid p1; have P2 := Lib.hid p2; have P3 := Lib.hid p3; have HLI := Lib.hid hli
      clear c1 hel he hex hl5 hcell HK htk p1 p2 p3 hli
      go_wp2_with (first | (go_at_call 52; (with_reducible refine (C1.out _ (by repeat (with_reducible first | assumption | exact grA | apply grB | apply grC | apply grD | refine grE ?_ (by omega) _ | refine grF ?_ (by omega) _ _))).mono ?_); rintro e w1 ⟨a5, c5, rfl, hg5, h57, h5b, h5s⟩; have hrw1 : wr.grows w1 := World.grows.trans (by repeat (with_reducible first | assumption | exact grA | apply grB | apply grC | apply grD | refine grE ?_ (by omega) _ | refine grF ?_ (by omega) _ _)) hg5; have hgw1 : w.grows w1 := World.grows.trans hg hrw1; have q1 := (hrw1.row_eq z1.1).trans hx; have q2 := (hrw1.row_eq z2.1).trans hy; have t1 := row_sz' q1; have t2 := row_sz' q2; have H5B := Lib.hid h5b; have H5S := Lib.hid h5s; clear h5b h5s hg5) | (at_builtin; refine wpList_app w (w.heap.size + 1 + 1) rfl (.tmp 18) (.tmp 21) _ rfl 30 (.agg #[.int .i64 0, .int .i64 0, .int .i64 0, .int .i64 0, .int .i64 0, .int .i64 0, .int .i64 0, .int .i64 0, .int .i64 0, .int .i64 0, .int .i64 0, .int .i64 0, .int .i64 0, .int .i64 0, .slice none 0 0]) 15 136 Try.underlying49 (by kernel_rfl) rfl (by omega) (by omega) _ i _ rfl (P3.out.grows (by repeat (with_reducible first | assumption | exact grA | apply grB | apply grC | apply grD | refine grE ?_ (by omega) _ | refine grF ?_ (by omega) _ _))) _ 1 _ (formC F.us (.slice a5 F.ps.length c5)) rfl (formC_len _ h57) (cells_of_row (e := 30) (fr := (0, 0)) (by simp [go_sem])) (fun u hu => List.all_eq_true.1 (formC_one rfl) u hu) (by omega) (by repeat (with_reducible first | assumption | exact grA | apply grB | apply grC | apply grD | refine grE ?_ (by omega) _ | refine grF ?_ (by omega) _ _)) (by omega) (by simp; omega) ?_; intro v' w' hg' HO' HR' HG' HA'))
      go_wp2_with fail
      go_roundg (3 - (i + 1))
      case rel =>
        refine ⟨i + 1, Lib.hid (by omega), by omega, by go_num, hg', (HR'.out _ (by omega)).trans (by simp [go_sem, q1, t1]), (HR'.out _ (by omega)).trans (by simp [go_sem, q2, t2]), Lib.hid ?_⟩
        rw [HTK.out]
        refine forms_append P1.out (fun i x cs hx hc => ⟨(P2.out i x cs hx hc).1, (P2.out i x cs hx hc).2.grows (hrw1.trans (World.grows.alloc World.grows.refl _))⟩) ((FormOk_of_parts h57 H5B.out H5S.out).grows (World.grows.alloc World.grows.refl _)) ?_ HG'.out HA'.out
        rw [HLI.out]
        exact HO'.out
      case measure => have := HGN.out; omega
    · obtain rfl : i = 3 := by omega
      have hW := HW.out
      rw [List.take_of_length_le (by rw [HL.out]; exact Nat.le_refl _)] at hW
      obtain ⟨f, f1, f2, hf⟩ : ∃ f f1 f2, kids.map V = [f, f1, f2] := len_three (by rw [List.length_map]; exact HL.out)
      rw [hf] at hW
      have hgd : pickF true [(kids.map V).getD 0 zeroF, pickF false ((kids.map V).drop 1)] = pickF true [f, pickF false [f1, f2]] := by rw [hf]; rfl
      have hsl0 : SlAt wr S1 15 (FormOk wr S1) u3 [f, f1, f2] := (hW.forms_mono World.grows.refl (T' := S1) (fun g h _ => h.1)).slAt (by omega) (fun g hg0 => HSN.out g (by have := (hW.lt hg0).1; omega))
      obtain ⟨g', off', cap', us, a1, n1, c1', ps, rfl, hc1, hc2, rfl, hn1, hu7, hub, hg3, eo, ev, hsl, htl⟩ := slAt_head3 hsl0
      have c1 : ∀ W, wr.grows W → Calls Try.prog 70 #[.bool false, .slice (some ⟨g', off' + 15, none⟩) 2 (cap' - 1)] W (FormP W S1 (pickF false [f1, f2])) := fun W hWg => by
        have hs1 := hWg.below.size
        exact pick_any _ _ _ W _ (fun g hg0 => HSN.out g (by have := z2.1; omega)) (htl.grows hWg (fun x _ cs h => h.grows hWg)) (by simp)
      have zg := lt_sz hg3
      generalize pickF false [f1, f2] = F1 at *
      have c2 : ∀ W a5 c5 G, wr.grows W → S1 G → F1.us.length = 7 → (∀ p ∈ F1.us, I64p p) → SlAt W S1 2 (PartR (FormOk W S1) W S1) (.slice a5 F1.ps.length c5) F1.ps →
          W.row G = some (.cells (formC us (.slice a1 n1 c1') ++ formC F1.us (.slice a5 F1.ps.length c5)).toArray 30) → Calls Try.prog 70 #[.bool true, .slice (some ⟨G, 0, none⟩) 2 2] W (FormP W S1 (pickF true [(kids.map V).getD 0 zeroF, pickF false ((kids.map V).drop 1)])) := fun W a5 c5 G hWg hSG h57 h5b h5s hrow => by
        have hs1 := hWg.below.size
        rw [hgd]
        exact pick_any _ _ _ W _ (fun g hg0 => HSN.out g (by have := z2.1; omega)) (slAt_two hrow hSG ((FormOk_form hu7 hub hsl).grows hWg) (FormOk_of_parts h57 h5b h5s)) (by simp)
      generalize pickF true [(kids.map V).getD 0 zeroF, pickF false ((kids.map V).drop 1)] = F at *
      have C1 := Lib.hid c1; have C2 := Lib.hid c2
      clear c1 c2 hW HW hf hgd hsl0 hsl htl hub hn1 hg3 HL
      go_wp2_with fail
      refine wp_region_plus_seq_tail 8 (by kernel_rfl) (by kernel_rfl) (fun x0 => ?_)
      simp only [List.take_succ_cons, List.take_zero, List.drop_succ_cons, List.drop_zero]
      repeat (any_goals (first | (refine wpSeqL_free rfl ?_; first | (go_big_quiet_skip; refine wpQuiet_nil ?_) | (go_big_quiet_step (fail); refine wpQuiet_nil ?_) | (refine wpQuiet_step (fun K hK => ?_); go_simp; split <;> (refine hK _ ?_; clear hK K; refine wpQuiet_nil ?_))) | (refine wpSeqL_link rfl (fun K hK => ?_); go_simp; first | first | (refine hK _ _ (by show World.grows _ _; repeat (first | assumption | exact grA | apply grB | apply grC | apply grD)) ?_; clear hK K) | (((first | (go_at_call 70; (with_reducible refine (C1.out _ (by repeat (with_reducible first | assumption | exact grA | apply grB | apply grC | apply grD | refine grE ?_ (by omega) _ | refine grF ?_ (by omega) _ _))).mono ?_); rintro e w1 ⟨a5, c5, rfl, hg5, h57, h5b, h5s⟩; have hrw1 : wr.grows w1 := World.grows.trans (by repeat (with_reducible first | assumption | exact grA | apply grB | apply grC | apply grD | refine grE ?_ (by omega) _ | refine grF ?_ (by omega) _ _)) hg5; have q2 := (hrw1.row_eq z2.1).trans hy; have t2 := row_sz' q2; have H5B := Lib.hid h5b; have H5S := Lib.hid h5s; clear h5b h5s hg5) | (go_at_call 70; (with_reducible refine (C2.out _ a5 c5 _ (World.grows.alloc hrw1 _) (HSN.out _ (by have := t2.1; omega)) h57 H5B.out (partsG H5S.out (World.grows.alloc World.grows.refl _)) ?_).mono ?_); (simp [go_sem]); rintro e w2 ⟨a6, c6, rfl, hg6, h67, h6b, h6s⟩; have hrw2 : wr.grows w2 := World.grows.trans (World.grows.alloc hrw1 _) hg6; have H6B := Lib.hid h6b; have H6S := Lib.hid h6s; clear h6b h6s hg6))); refine ⟨_, rfl, hK _ _ (by show World.grows _ _; repeat (first | assumption | exact grA | apply grB | apply grC | apply grD)) ?_⟩; clear hK K) | (split <;> (first | (refine hK _ _ (by show World.grows _ _; repeat (first | assumption | exact grA | apply grB | apply grC | apply grD)) ?_; clear hK K) | (((first | (go_at_call 70; (with_reducible refine (C1.out _ (by repeat (with_reducible first | assumption | exact grA | apply grB | apply grC | apply grD | refine grE ?_ (by omega) _ | refine grF ?_ (by omega) _ _))).mono ?_); rintro e w1 ⟨a5, c5, rfl, hg5, h57, h5b, h5s⟩; have hrw1 : wr.grows w1 := World.grows.trans (by repeat (with_reducible first | assumption | exact grA | apply grB | apply grC | apply grD | refine grE ?_ (by omega) _ | refine grF ?_ (by omega) _ _)) hg5; have q2 := (hrw1.row_eq z2.1).trans hy; have t2 := row_sz' q2; have H5B := Lib.hid h5b; have H5S := Lib.hid h5s; clear h5b h5s hg5) | (go_at_call 70; (with_reducible refine (C2.out _ a5 c5 _ (World.grows.alloc hrw1 _) (HSN.out _ (by have := t2.1; omega)) h57 H5B.out (partsG H5S.out (World.grows.alloc World.grows.refl _)) ?_).mono ?_); (simp [go_sem]); rintro e w2 ⟨a6, c6, rfl, hg6, h67, h6b, h6s⟩; have hrw2 : wr.grows w2 := World.grows.trans (World.grows.alloc hrw1 _) hg6; have H6B := Lib.hid h6b; have H6S := Lib.hid h6s; clear h6b h6s hg6))); refine ⟨_, rfl, hK _ _ (by show World.grows _ _; repeat (first | assumption | exact grA | apply grB | apply grC | apply grD)) ?_⟩; clear hK K))))))
      all_goals (refine wpSeqL_end ?_)
      have hgw2 : w.grows w2 := World.grows.trans hg hrw2
      have q3 := (hrw2.row_eq z2.1).trans hy
      have t3 := row_sz' q3
      go_wp2_with fail
      (with_reducible show bodyPost _ _ _ _ _ _); exact ret_30 rfl rfl (by simp [go_sem, q3, t3, h67]) rfl ⟨a6, c6, (by simp [go_sem, q3, t3, h67]), (by repeat (with_reducible first | assumption | exact grA | apply grB | apply grC | apply grD | refine grE ?_ (by omega) _ | refine grF ?_ (by omega) _ _)), h67, H6B.out, formS_keep H6S.out (fun g h => ⟨by rw [World.row_setRow, if_neg (HSD.out g h).2], (HSD.out g h).1⟩)⟩

set_option maxRecDepth 100000 in
set_option maxHeartbeats 4000000 in
theorem form_k1 (n d u : Int) (a : Option Addr) (cap : Nat) (w : World) (S : Nat → Prop) (wn : I64 n) (wd : I64 d) (wu : I64 u) :
    Calls Try.prog 52 #[.agg #[.int .i64 1, .int .i64 n, .int .i64 d, .int .i64 u, .slice a 0 cap]] w (FormP w S (oneF u (n, d))) := by
  have o1 := fun W => one_any u n d W wu wn wd
  have hb : ∀ p ∈ oneU u (n, d), I64p p := oneU_bd ⟨wn, wd⟩
  have hl := oneU_len u (n, d)
  have e1 : (oneF u (n, d)).us = oneU u (n, d) := rfl
  have e2 : (oneF u (n, d)).ps = [] := rfl
  unfold FormP
  rw [e1, e2]
  generalize oneU u (n, d) = U at *
  have O1 := Lib.hid o1; have HB := Lib.hid hb
  clear o1 hb e1 e2 wn wd wu
  go_enter Try.func52, Try.ntmps52
  go_wp2_with fail
  go_loopw [14] (fun v9 wr => v9 = .int .i64 0 ∧ w.grows wr ∧ wr.row w.heap.size = some (.cells #[.int .i64 1, .int .i64 n, .int .i64 d, .int .i64 u, .slice a 0 cap] 26) ∧ wr.row (w.heap.size + 1) = some (.cells (formC (zs 0) (.slice none 0 0)).toArray 30)) (fun _ _ => 0)
  case atStart => exact ⟨rfl, (by repeat (with_reducible first | assumption | exact grA | apply grB | apply grC | apply grD | refine grE ?_ (by omega) _ | refine grF ?_ (by omega) _ _)), by simp [go_sem], by simp [go_sem]; rfl⟩
  case round =>
    obtain ⟨rfl, hg, hx, hy⟩ := hrel
    have z1 := row_sz' hx
    have z2 := row_sz' hy
    go_wp2_with (first | (go_at_call 32; (with_reducible refine (O1.out _).mono ?_); rintro e w1 ⟨rfl, x1, rfl⟩))
    (with_reducible show bodyPost _ _ _ _ _ _); exact ret_30 rfl rfl (by simp [go_sem, hx, hy, z1, z2, hl]) rfl ⟨none, 0, (by simp [go_sem, hx, hy, z1, z2, hl]), (by repeat (with_reducible first | assumption | exact grA | apply grB | apply grC | apply grD | refine grE ?_ (by omega) _ | refine grF ?_ (by omega) _ _)), hl, HB.out, SlAt_nil _ _ _ _⟩

set_option maxRecDepth 100000 in
set_option maxHeartbeats 4000000 in
theorem form_k4 (t : Fm) (n d u : Int) (len : Nat) (a : Option Addr) (cap : Nat) (w : World) (S : Nat → Prop) (hS : ∀ g, w.heap.size ≤ g → S g)
    (hp : ∀ W T, w.grows W → (∀ g, W.heap.size ≤ g → T g) → Calls Try.prog 84 #[.agg #[.int .i64 4, .int .i64 n, .int .i64 d, .int .i64 u, .slice a len cap]] W (FormP W T t)) :
    Calls Try.prog 52 #[.agg #[.int .i64 4, .int .i64 n, .int .i64 d, .int .i64 u, .slice a len cap]] w (FormP w S t) := by
  obtain ⟨S1, hS1⟩ : ∃ S1 : Nat → Prop, ∀ g, S1 g ↔ (S g ∧ g ≠ w.heap.size + 1) := ⟨_, fun _ => Iff.rfl⟩
  have hSn : ∀ g, w.heap.size + 1 + 1 ≤ g → S1 g := fun g h => (hS1 g).2 ⟨hS g (by omega), by omega⟩
  have hSd : ∀ g, S1 g → S g ∧ g ≠ w.heap.size + 1 := fun g h => (hS1 g).1 h
  have HP := Lib.hid hp; have HSN := Lib.hid hSn; have HSD := Lib.hid hSd; clear hp hS hS1 hSn hSd
  go_enter Try.func52, Try.ntmps52
  go_wp2_with (first | (go_at_call 84; (with_reducible refine (HP.out _ S1 (by repeat (with_reducible first | assumption | exact grA | apply grB | apply grC | apply grD | refine grE ?_ (by omega) _ | refine grF ?_ (by omega) _ _)) (fun g hg0 => HSN.out g (by simp at hg0; omega))).mono ?_); rintro e w1 ⟨a5, c5, rfl, hg5, h57, h5b, h5s⟩; have hgw1 : w.grows w1 := World.grows.trans (by repeat (with_reducible first | assumption | exact grA | apply grB | apply grC | apply grD | refine grE ?_ (by omega) _ | refine grF ?_ (by omega) _ _)) hg5; have q2 := hg5.row_eq (g := w.heap.size + 1) (by simp); have H5B := Lib.hid h5b; have H5S := Lib.hid h5s; clear h5b h5s hg5; simp [go_sem] at q2; have q3 : w1.row (w.heap.size + 1) = some (.cells (formC (zs 0) (.slice none 0 0)).toArray 30) := q2; clear q2; have t2 := row_sz' q3))
  (with_reducible show bodyPost _ _ _ _ _ _); exact ret_30 rfl rfl (by simp [go_sem, q3, t2, h57]) rfl ⟨a5, c5, (by simp [go_sem, q3, t2, h57]), (by repeat (with_reducible first | assumption | exact grA | apply grB | apply grC | apply grD | refine grE ?_ (by omega) _ | refine grF ?_ (by omega) _ _)), h57, H5B.out, formS_keep H5S.out (fun g h => ⟨by rw [World.row_setRow, if_neg (HSD.out g h).2], (HSD.out g h).1⟩)⟩


end Go.Proofs.Ythmicnjigfcljaa

/- Texts of the walk, one after the other; what each proves stands ahead of it. -/
import Derived.Test.YthmicnjigfcljaaNormForm
set_option linter.unusedSimpArgs false
set_option linter.unusedVariables false
/- WALK over norm: the form of a product. No condition but that the expression stands in memory, that it may be, and that it has at most 2^20 nodes. -/
namespace Go.Proofs.Ythmicnjigfcljaa
open Go.RowKit

theorem formS_keep2 {w1 W : World} {S S1 : Nat → Prop} {f : Fm} {v : Value} (h : SlAt w1 S1 2 (PartR (FormOk w1 S1) w1 S1) v f.ps) (hk : ∀ g, S1 g → g < w1.heap.size → W.row g = w1.row g ∧ S g) : SlAt W S 2 (PartR (FormOk W S) W S) v f.ps :=
  h.keep hk (fun x _ cs ⟨v', e, h⟩ => ⟨v', e, h.keep hk (fun f _ cs hf => hf.keep hk)⟩)

set_option maxRecDepth 100000 in
set_option maxHeartbeats 8000000 in
theorem product_step (m : Nat) (IH0 : FormIH m) (kids : List Ex) (a : Option Addr) (cap left : Nat) (w : World) (S : Nat → Prop) (hS : ∀ g, w.heap.size ≤ g → S g) (hlc : kids.length ≤ cap) (hc : cap ≤ 9223372036854775807) (hkids : KidsAt w m kids a)
    (hmay : kids.all (mayE m left) = true) (hleft : left ≤ 340) (hkind : kindE (m + 1) (.mk 4 0 0 0 kids) = 2) (hsz : szE (m + 1) (.mk 4 0 0 0 kids) ≤ 1048576) (hbd : ∀ t ∈ kids, bdE m t) :
    Calls Try.prog 84 #[.agg #[.int .i64 4, .int .i64 0, .int .i64 0, .int .i64 0, .slice a kids.length cap]] w (FormP w S (formE (m + 1) (.mk 4 0 0 0 kids))) := by
  obtain ⟨S1, hS1⟩ : ∃ S1 : Nat → Prop, ∀ g, S1 g ↔ (S g ∧ g ≠ w.heap.size + 1 ∧ g ≠ w.heap.size + 1 + 1) := ⟨_, fun _ => Iff.rfl⟩
  have hSn : ∀ g, w.heap.size + 1 + 1 + 1 ≤ g → S1 g := fun g h => (hS1 g).2 ⟨hS g (by omega), by omega, by omega⟩
  have hSd : ∀ g, S1 g → S g ∧ g ≠ w.heap.size + 1 ∧ g ≠ w.heap.size + 1 + 1 := fun g h => (hS1 g).1 h
  have HSN := Lib.hid hSn; have HSD := Lib.hid hSd; clear hS1 hSn hSd hS
  have hn : kids.length < 1048576 := Nat.lt_of_lt_of_le szE_kids hsz
  obtain ⟨hk1, hk2⟩ := kind_prod hkind
  have hmem : ∀ i (hlt : i < kids.length), mayE m left kids[i] = true ∧ szE m kids[i] ≤ 1048576 := fun i hlt =>
    ⟨List.all_eq_true.1 hmay _ (List.getElem_mem hlt), Nat.le_of_lt (Nat.lt_of_lt_of_le (szE_kid (List.getElem_mem hlt)) hsz)⟩
  have IH1 : ∀ i (hlt : i < kids.length) cs' W T, (∀ g, W.heap.size ≤ g → T g) → kindE m kids[i] = 2 → ExAt W m kids[i] cs' → Calls Try.prog 52 #[.agg cs'.toArray] W (FormP W T (formE m kids[i])) :=
    fun i hlt cs' W T hT hk h => IH0 _ _ left _ T hT h (hmem i hlt).1 hleft hk (hmem i hlt).2
  have IH2 : ∀ i (hlt : i < kids.length) cs' W, ExAt W m kids[i] cs' → Calls Try.prog 58 #[.agg cs'.toArray] W (Gives W (ratV (numE m kids[i]))) :=
    fun i hlt cs' W h => number_any m _ _ left _ h (hmem i hlt).1 (hmem i hlt).2
  have IH3 : ∀ i (hlt : i < kids.length) cs' W, ExAt W m kids[i] cs' → Calls Try.prog 81 #[.agg cs'.toArray] W (Gives W (.tuple #[.int .i64 (kindE m kids[i]), .int .i64 0])) := fun i hlt cs' W h => by
    have h1 := calcKind_any m _ _ W h
    rw [if_pos (mayE_mono m left 340 _ (hmem i hlt).1 hleft), if_pos (mayE_mono m left 340 _ (hmem i hlt).1 hleft), if_neg (by rcases hk2 _ (List.getElem_mem hlt) with h | h <;> omega)] at h1
    exact h1
  have hfz : szF (theF (formE m) (kindE m) kids) ≤ 4194304 := by
    unfold theF
    cases hq : (kids.filter fun t => kindE m t == 2) with
    | nil => show szF noneF ≤ _; unfold noneF; rw [szF, szP]; omega
    | cons t l =>
      have ht : t ∈ kids := (List.mem_filter.1 (by rw [hq]; exact List.mem_cons_self)).1
      have := szF_formE m left t (List.all_eq_true.1 hmay t ht)
      have h2 := szE_kid (m := m) (k := 4) (n := 0) (d := 0) (u := 0) ht
      show szF (formE m t) ≤ _
      omega
  have hNbd : ∀ p ∈ nums (numE m) (kindE m) kids, I64p p := fun p hp => by
    obtain ⟨t, ht, rfl⟩ := List.mem_map.1 hp
    exact numE_bd m t (hbd t (List.mem_filter.1 ht).1)
  rw [formE_prod]
  clear hsz hmay IH0 hkind hmem hbd
  generalize formE m = V at *
  generalize numE m = N at *
  generalize kindE m = K at *
  have IHF := Lib.hid IH1; have IHN := Lib.hid IH2; have IHK := Lib.hid IH3; have HK := Lib.hid hkids; have HFZ := Lib.hid hfz; have HK1 := Lib.hid hk1; have HK2 := Lib.hid hk2; have HNB := Lib.hid hNbd
  clear IH1 IH2 IH3 hkids hfz hk1 hk2 hNbd
  go_enter Try.func84, Try.ntmps84
  go_wp2_with fail
  go_loopg [4, 12] kids.length (fun gn v4 v12 wj => ∃ (i : Nat) (ao : Option Addr) (co : Nat), Hid (gn + i = kids.length) ∧ i ≤ kids.length ∧ v12 = .int .i64 i ∧ w.grows wj ∧ wj.row w.heap.size = some (.cells #[.int .i64 4, .int .i64 0, .int .i64 0, .int .i64 0, .slice a kids.length cap] 26) ∧
    wj.row (w.heap.size + 1) = some (.cells (formC (zs 0) (.slice none 0 0)).toArray 30) ∧ wj.row (w.heap.size + 1 + 1) = some (.cells (formC (theF V K (kids.take i)).us (.slice ao (theF V K (kids.take i)).ps.length co)).toArray 30) ∧
    (theF V K (kids.take i)).us.length = 7 ∧ Hid (∀ p ∈ (theF V K (kids.take i)).us, I64p p) ∧ Hid (SlAt wj (exS S1 v4) 2 (PartR (FormOk wj (exS S1 v4)) wj (exS S1 v4)) (.slice ao (theF V K (kids.take i)).ps.length co) (theF V K (kids.take i)).ps) ∧
    Hid (wj.ownsRow (w.heap.size + 1 + 1 + 1) 23 2 v4 (nums N K (kids.take i)).length ((nums N K (kids.take i)).flatMap ratL)))
  case atStart => exact ⟨0, none, 0, rfl, Nat.zero_le _, rfl, (by repeat (with_reducible first | assumption | exact grA | apply grB | apply grC | apply grD | refine grE ?_ (by omega) _ | refine grF ?_ (by omega) _ _)), by simp [go_sem], by simp [go_sem]; rfl, by simp [go_sem]; rfl, rfl, Lib.hid (fun p hp => by
      have : p = (0, 0) := List.eq_of_mem_replicate (hp : p ∈ List.replicate 7 ((0 : Int), (0 : Int)))
      rw [this]; simp [I64p, I64]), SlAt_nil _ _ _ _, World.ownsRow_nil _ _ _ _⟩
  case round =>
    obtain ⟨i, ao, co, HGN, hi, rfl, hg, hx, hy, hz, hu7, HUB, HSL, HO⟩ := hrel
    have z1 := row_sz' hx; have z2 := row_sz' hy; have z3 := row_sz' hz
    by_cases hlt : i < kids.length
    · rcases HK.out with h | ⟨g, off, rfl, hcell⟩
      · rw [h] at hlt; cases hlt
      obtain ⟨cs', hel, hex⟩ := hcell i kids[i] (by simp [hlt])
      have hl5 := ExAt_len hex
      have he := hel.grows hg
      unfold eltAt at he
      rw [hl5] at he
      have zr := lt_sz (hel.grows hg).lt
      have e3 : segOk (off + i * 5) 5 (wr.row g) = true := he.1
      have e4 : segV (off + i * 5) 5 (wr.row g) = .agg cs'.toArray := he.2
      have htk : kids.take (i + 1) = kids.take i ++ [kids[i]] := List.take_succ_eq_append_getElem hlt
      have ck : ∀ W, w.grows W → Calls Try.prog 81 #[.agg cs'.toArray] W (Gives W (.tuple #[.int .i64 (K kids[i]), .int .i64 0])) := fun W hW => IHK.out i hlt cs' W (hex.grows hW)
      have hbs : w.heap.size + 1 + 1 + 1 ≤ wr.heap.size := z3.1
      by_cases hk : K kids[i] = 2
      · have cf : ∀ W, wr.grows W → Calls Try.prog 52 #[.agg cs'.toArray] W (FormP W (exS S1 u4) (V kids[i])) := fun W hW => by
          have hs1 := hW.below.size
          refine IHF.out i hlt cs' W _ (fun g hg0 => ⟨HSN.out g (by omega), fun e => ?_⟩) hk (hex.grows (hg.trans hW))
          have := (HO.out.lt g e).2; omega
        have h1 : theF V K (kids.take (i + 1)) = V kids[i] := by
          rw [htk]
          refine theF_len (l' := kids.drop (i + 1)) hk ?_
          have : kids.take i ++ kids[i] :: kids.drop (i + 1) = kids := by rw [← List.drop_eq_getElem_cons hlt, List.take_append_drop]
          rw [this]; exact HK1.out
        have h2 : nums N K (kids.take (i + 1)) = nums N K (kids.take i) := by rw [htk]; exact nums_len hk
        rw [hk] at ck
        obtain ⟨k0, k1, k2, k3, va, vl, vc, rfl⟩ := ExAt_vals hex
        generalize V kids[i] = F at *
        have CK := Lib.hid ck; have CF := Lib.hid cf; have H1 := Lib.hid h1; have H2 := Lib.hid h2
        clear ck cf h1 h2 hk hel he hex hl5 hcell HK htk
        go_wp2_with (first | (go_at_call 81; (with_reducible refine (CK.out _ (by repeat (with_reducible first | assumption | exact grA | apply grB | apply grC | apply grD | refine grE ?_ (by omega) _ | refine grF ?_ (by omega) _ _))).mono ?_); rintro e w1 ⟨rfl, x1, rfl⟩) | (go_at_call 52; (with_reducible refine (CF.out _ (by repeat (with_reducible first | assumption | exact grA | apply grB | apply grC | apply grD | refine grE ?_ (by omega) _ | refine grF ?_ (by omega) _ _))).mono ?_); rintro e w1 ⟨a5, c5, rfl, hg5, h57, h5b, h5s⟩; have hrw1 : wr.grows w1 := World.grows.trans (by repeat (with_reducible first | assumption | exact grA | apply grB | apply grC | apply grD | refine grE ?_ (by omega) _ | refine grF ?_ (by omega) _ _)) hg5; have hgw1 : w.grows w1 := World.grows.trans hg hrw1; have q1 := (hrw1.row_eq z1.1).trans hx; have q2 := (hrw1.row_eq z2.1).trans hy; have q3 := (hrw1.row_eq z3.1).trans hz; have t1 := row_sz' q1; have t2 := row_sz' q2; have t3 := row_sz' q3; have H5B := Lib.hid h5b; have H5S := Lib.hid h5s; clear h5b h5s hg5))
        go_roundg (kids.length - (i + 1))
        case rel =>
          refine ⟨i + 1, a5, c5, Lib.hid (by omega), by omega, by go_num, (by repeat (with_reducible first | assumption | exact grA | apply grB | apply grC | apply grD | refine grE ?_ (by omega) _ | refine grF ?_ (by omega) _ _)), by simp [go_sem, q1, q2, q3, t1, t2, t3], by simp [go_sem, q1, q2, q3, t1, t2, t3], by rw [H1.out]; simp [go_sem, q1, q2, q3, t1, t2, t3], by rw [H1.out]; exact h57, Lib.hid (by rw [H1.out]; exact H5B.out), Lib.hid ?_, Lib.hid ?_⟩
          · rw [H1.out]
            exact formS_keep H5S.out (fun g h => ⟨by rw [World.row_setRow, if_neg (HSD.out g h.1).2.2], h⟩)
          · rw [H2.out]
            exact (HO.out.grows hrw1).row_kept (fun g h _ => by rw [World.row_setRow, if_neg (by omega)])
        case measure => have := HGN.out; omega
      · have hk1 : (K kids[i] == 2) = false := by simpa using hk
        have cn : ∀ W, w.grows W → Calls Try.prog 58 #[.agg cs'.toArray] W (Gives W (ratV (N kids[i]))) := fun W hW => IHN.out i hlt cs' W (hex.grows hW)
        have h1 : theF V K (kids.take (i + 1)) = theF V K (kids.take i) := by rw [htk]; exact theF_num hk
        have h2 : nums N K (kids.take (i + 1)) = nums N K (kids.take i) ++ [N kids[i]] := by rw [htk]; exact nums_num hk
        have hnl : (nums N K (kids.take i)).length ≤ 1048576 := by
          have := nums_le (N := N) (K := K) (l := kids.take i)
          rw [List.length_take] at this; omega
        obtain ⟨k0, k1, k2, k3, va, vl, vc, rfl⟩ := ExAt_vals hex
        generalize N kids[i] = q at *
        obtain ⟨q1, q2⟩ := q
        generalize K kids[i] = kk at *
        have CK := Lib.hid ck; have CN := Lib.hid cn; have H1 := Lib.hid h1; have H2 := Lib.hid h2
        clear ck cn h1 h2 hk hel he hex hl5 hcell HK htk
        go_wp2_with (first | (go_at_call 81; (with_reducible refine (CK.out _ (by repeat (with_reducible first | assumption | exact grA | apply grB | apply grC | apply grD | refine grE ?_ (by omega) _ | refine grF ?_ (by omega) _ _))).mono ?_); rintro e w1 ⟨rfl, x1, rfl⟩) | (go_at_call 58; (with_reducible refine (CN.out _ (by repeat (with_reducible first | assumption | exact grA | apply grB | apply grC | apply grD | refine grE ?_ (by omega) _ | refine grF ?_ (by omega) _ _))).mono ?_); rintro e w1 ⟨rfl, x2, rfl⟩) | (at_builtin; refine wpList_app w (w.heap.size + 1 + 1 + 1) rfl (.tmp 25) (.tmp 28) _ rfl 23 (.agg #[.int .i64 0, .int .i64 0]) 2 16 Try.underlying85 (by kernel_rfl) rfl (by omega) (by omega) _ (nums N K (kids.take i)).length _ rfl (HO.out.grows (by repeat (with_reducible first | assumption | exact grA | apply grB | apply grC | apply grD | refine grE ?_ (by omega) _ | refine grF ?_ (by omega) _ _))) _ 1 _ [.int .i64 q1, .int .i64 q2] rfl rfl (cells_of_row (e := 23) (fr := (0, 0)) (by simp [go_sem])) (by simp [Value.oneCell']) (by omega) (by repeat (with_reducible first | assumption | exact grA | apply grB | apply grC | apply grD | refine grE ?_ (by omega) _ | refine grF ?_ (by omega) _ _)) (by omega) (by simp; omega) ?_; intro v' w' hg' HO' HR' HG' HA'))
        go_wp2_with fail
        go_roundg (kids.length - (i + 1))
        case rel =>
          refine ⟨i + 1, ao, co, Lib.hid (by omega), by omega, by go_num, hg', (HR'.out _ (by omega)).trans (by simp [go_sem, hx, z1]), (HR'.out _ (by omega)).trans (by simp [go_sem, hy, z2]), by rw [H1.out]; exact (HR'.out _ (by omega)).trans (by simp [go_sem, hz, z3]), by rw [H1.out]; exact hu7, Lib.hid (by rw [H1.out]; exact HUB.out), Lib.hid ?_, Lib.hid ?_⟩
          · rw [H1.out]
            refine formS_keep2 (partsG HSL.out (W := ((wr.alloc _).plus x1).plus x2 |>.alloc _) (by repeat (with_reducible first | assumption | exact grA | apply grB | apply grC | apply grD | refine grE ?_ (by omega) _ | refine grF ?_ (by omega) _ _))) (fun g h hl => ⟨HG'.out.block g hl (fun e => h.2 e.symm), h.1, fun e => ?_⟩)
            rcases HA'.out with h' | h'
            · exact h.2 (h' ▸ e)
            · rw [h'] at e; cases e; omega
          · rw [H2.out, List.flatMap_append, List.length_append]
            simpa using HO'.out
        case measure => have := HGN.out; omega
    · obtain rfl : i = kids.length := by omega
      have hO := HO.out; have hU := HUB.out; have hS' := HSL.out; have hN := HNB.out; have hF := HFZ.out
      rw [List.take_length] at hO hz hU hS' hu7
      have hR := RatsAt_of_owns hO hN
      have c1 := fun W (hW : wr.grows W) => ratMul_any u4 _ W (hR.grows hW)
      have hb : I64p (foldQ (1, 1) mulQ (nums N K kids)) := foldQ_bd (fun p q => mulQ_bd p q) (by simp [I64p, I64]) hN
      generalize nums N K kids = L at *
      generalize foldQ (1, 1) mulQ L = R at *
      generalize theF V K kids = G at *
      have c2 : ∀ W, wr.grows W → Calls Try.prog 63 #[.agg (formC G.us (.slice ao G.ps.length co)).toArray, .agg #[.int .i64 R.1, .int .i64 R.2]] W (FormP W S1 (scaleF R G)) := fun W hW => by
        have hs1 := hW.below.size
        exact scale_any G _ R.1 R.2 W S1 (fun g hg0 => HSN.out g (by have := z3.1; omega)) ((FormOk_of_parts hu7 hU (formS_keep2 hS' (fun g h _ => ⟨rfl, h.1⟩))).grows hW) hb.1 hb.2 hF
      generalize scaleF R G = F at *
      obtain ⟨R1, R2⟩ := R
      dsimp only at c2
      have C1 := Lib.hid c1; have C2 := Lib.hid c2
      clear c1 c2 hR hb hO hU hS' hN hF HO HUB HSL HNB HFZ HK1 HK2
      go_wp2_with fail
      refine wp_region_plus_seq_tail 4 (by kernel_rfl) (by kernel_rfl) (fun x0 => ?_)
      simp only [List.take_succ_cons, List.take_zero, List.drop_succ_cons, List.drop_zero]
      repeat (any_goals (first | (refine wpSeqL_free rfl ?_; first | (go_big_quiet_skip; refine wpQuiet_nil ?_) | (go_big_quiet_step (fail); refine wpQuiet_nil ?_) | (refine wpQuiet_step (fun K hK => ?_); go_simp; split <;> (refine hK _ ?_; clear hK K; refine wpQuiet_nil ?_))) | (refine wpSeqL_link rfl (fun K hK => ?_); go_simp; first | first | (refine hK _ _ (by show World.grows _ _; repeat (first | assumption | exact grA | apply grB | apply grC | apply grD)) ?_; clear hK K) | (((first | (go_at_call 77; (with_reducible refine (C1.out _ (by repeat (with_reducible first | assumption | exact grA | apply grB | apply grC | apply grD | refine grE ?_ (by omega) _ | refine grF ?_ (by omega) _ _))).mono ?_); rintro e w1 ⟨rfl, x1, rfl⟩) | (go_at_call 63; (with_reducible refine (C2.out _ (by repeat (with_reducible first | assumption | exact grA | apply grB | apply grC | apply grD | refine grE ?_ (by omega) _ | refine grF ?_ (by omega) _ _))).mono ?_); rintro e w2 ⟨a6, c6, rfl, hg6, h67, h6b, h6s⟩; have hrw2 : wr.grows w2 := World.grows.trans (by repeat (with_reducible first | assumption | exact grA | apply grB | apply grC | apply grD | refine grE ?_ (by omega) _ | refine grF ?_ (by omega) _ _)) hg6; have H6B := Lib.hid h6b; have H6S := Lib.hid h6s; clear h6b h6s hg6))); refine ⟨_, rfl, hK _ _ (by show World.grows _ _; repeat (first | assumption | exact grA | apply grB | apply grC | apply grD)) ?_⟩; clear hK K) | (split <;> (first | (refine hK _ _ (by show World.grows _ _; repeat (first | assumption | exact grA | apply grB | apply grC | apply grD)) ?_; clear hK K) | (((first | (go_at_call 77; (with_reducible refine (C1.out _ (by repeat (with_reducible first | assumption | exact grA | apply grB | apply grC | apply grD | refine grE ?_ (by omega) _ | refine grF ?_ (by omega) _ _))).mono ?_); rintro e w1 ⟨rfl, x1, rfl⟩) | (go_at_call 63; (with_reducible refine (C2.out _ (by repeat (with_reducible first | assumption | exact grA | apply grB | apply grC | apply grD | refine grE ?_ (by omega) _ | refine grF ?_ (by omega) _ _))).mono ?_); rintro e w2 ⟨a6, c6, rfl, hg6, h67, h6b, h6s⟩; have hrw2 : wr.grows w2 := World.grows.trans (by repeat (with_reducible first | assumption | exact grA | apply grB | apply grC | apply grD | refine grE ?_ (by omega) _ | refine grF ?_ (by omega) _ _)) hg6; have H6B := Lib.hid h6b; have H6S := Lib.hid h6s; clear h6b h6s hg6))); refine ⟨_, rfl, hK _ _ (by show World.grows _ _; repeat (first | assumption | exact grA | apply grB | apply grC | apply grD)) ?_⟩; clear hK K))))))
      all_goals (refine wpSeqL_end ?_)
      have hgw2 : w.grows w2 := World.grows.trans hg hrw2
      have q3 := (hrw2.row_eq z2.1).trans hy
      have t3 := row_sz' q3
      go_wp2_with fail
      (with_reducible show bodyPost _ _ _ _ _ _); exact ret_30 rfl rfl (by simp [go_sem, q3, t3, h67]) rfl ⟨a6, c6, (by simp [go_sem, q3, t3, h67]), (by repeat (with_reducible first | assumption | exact grA | apply grB | apply grC | apply grD | refine grE ?_ (by omega) _ | refine grF ?_ (by omega) _ _)), h67, H6B.out, formS_keep H6S.out (fun g h => ⟨by rw [World.row_setRow, if_neg (HSD.out g h).2.1], (HSD.out g h).1⟩)⟩

end Go.Proofs.Ythmicnjigfcljaa

/- WALKS over norm: form, asked, Form, Number. No condition but that the expression stands in memory and has at most 2^20 nodes. -/
namespace Go
open Go.RowKit
theorem formE_1 (m : Nat) (n d u : Int) (kids : List Ex) : formE (m + 1) (.mk 1 n d u kids) = oneF u (n, d) := by simp [formE]
theorem formE_2 (m : Nat) (n d u : Int) (kids : List Ex) : formE (m + 1) (.mk 2 n d u kids) = addF (kids.map (formE m)) := by simp [formE]
theorem formE_3 (m : Nat) (n d u : Int) (kids : List Ex) : formE (m + 1) (.mk 3 n d u kids) = scaleF (-1, 1) ((kids.map (formE m)).getD 0 zeroF) := by unfold formE; rfl
theorem formE_6 (m : Nat) (n d u : Int) (kids : List Ex) : formE (m + 1) (.mk 6 n d u kids) = pickF false (kids.map (formE m)) := by simp [formE]
theorem formE_7 (m : Nat) (n d u : Int) (kids : List Ex) : formE (m + 1) (.mk 7 n d u kids) = pickF true (kids.map (formE m)) := by simp [formE]
theorem formE_8 (m : Nat) (n d u : Int) (kids : List Ex) : formE (m + 1) (.mk 8 n d u kids) = pickF true [(kids.map (formE m)).getD 0 zeroF, pickF false ((kids.map (formE m)).drop 1)] := by unfold formE; rfl
end Go
namespace Go.Proofs.Ythmicnjigfcljaa
open Go.RowKit

theorem form_all : ∀ (m : Nat), FormIH m
  | 0 => fun _ _ _ _ _ _ h _ _ _ _ => h.elim
  | m + 1 => by
    intro t cs left w S hS h hm hl hk hsz
    have IH := form_all m
    have hb := ExAt_bd _ _ _ h
    obtain ⟨k, n, d, u, kids⟩ := t
    have h' := h
    obtain ⟨wk, wn, wd, wu, a, cap, rfl, hlc, hc, hkids⟩ := h
    show Calls Try.prog 52 #[.agg #[.int .i64 k, .int .i64 n, .int .i64 d, .int .i64 u, .slice a kids.length cap]] w _
    unfold mayE at hm
    split at hm
    · cases hm
    split at hm
    · rename_i hk1
      subst hk1
      simp only [Bool.and_eq_true, decide_eq_true_eq] at hm
      rw [hm.1, formE_1]
      exact form_k1 n d u a cap w S wn wd wu
    · rename_i hk1
      simp only [Bool.and_eq_true, decide_eq_true_eq] at hm
      obtain ⟨⟨rfl, rfl⟩, rfl, hok, hall⟩ := hm
      by_cases hk4 : k = 4
      · subst hk4
        refine form_k4 _ 0 0 0 kids.length a cap w S hS (fun W T hW hT => ?_)
        have h2 := ExAt.grows hW _ _ _ h'
        obtain ⟨_, _, _, _, a2, cap2, e, _, _, hkids2⟩ := h2
        injection e with _ e; injection e with _ e; injection e with _ e; injection e with _ e; injection e with e _; injection e with e1 _ e2
        subst e1; subst e2
        exact product_step m IH kids a cap (left - 1) W T hT hlc hc hkids2 hall (by omega) hk hsz hb.2
      · obtain ⟨hk5, hkk⟩ := kind_kids hk hk1 hk4
        have hkx : k = 2 ∨ k = 6 ∨ k = 7 ∨ k = 3 ∨ k = 8 := by
          unfold lenOk at hok
          split at hok
          · omega
          · split at hok
            · omega
            · split at hok
              · omega
              · cases hok
        rcases hkx with rfl | rfl | rfl | rfl | rfl
        · rw [formE_2]; exact form_k2 m IH kids a cap _ w S hS hlc hc hkids hall (by omega) hkk hsz (by simpa [lenOk] using hok)
        · rw [formE_6]; exact form_k6 m IH kids a cap _ w S hS hlc hc hkids hall (by omega) hkk hsz (by simpa [lenOk] using hok)
        · rw [formE_7]; exact form_k7 m IH kids a cap _ w S hS hlc hc hkids hall (by omega) hkk hsz (by simpa [lenOk] using hok)
        · have hl : kids.length = 1 := by simpa [lenOk] using hok
          rw [formE_3]
          have := form_k3 m IH kids a cap _ w S hS (hl ▸ hlc) hc hkids hall (by omega) hkk hsz hl
          rw [hl]; exact this
        · have hl : kids.length = 3 := by simpa [lenOk] using hok
          rw [formE_8]
          have := form_k8 m IH kids a cap _ w S hS (hl ▸ hlc) hc hkids hall (by omega) hkk hsz hl
          rw [hl]; exact this

/-- the word that an expression of another kind than this gives -/
def askE (m : Nat) (t : Ex) (kd : Int) : Int := if mayE m 340 t then (if kindE m t = kd then 0 else 4) else 1

set_option maxRecDepth 100000 in
set_option maxHeartbeats 4000000 in
theorem asked_any (m : Nat) (t : Ex) (cs : List Value) (kd : Int) (w : World) (h : ExAt w m t cs) (h0 : kd ≠ 0) : Calls Try.prog 51 #[.agg cs.toArray, .int .i64 kd] w (Gives w (.int .i64 (askE m t kd))) := by
  have c1 := fun W (hW : w.grows W) => calcKind_any m t cs W (h.grows hW)
  obtain ⟨v0, v1, v2, v3, va, vl, vc, rfl⟩ := ExAt_vals h
  unfold askE
  generalize mayE m 340 t = B at c1 ⊢
  generalize kindE m t = K at c1 ⊢
  clear h
  cases B
  · simp only [Bool.false_eq_true, if_false] at c1 ⊢
    have C1 := Lib.hid c1; clear c1
    go_enter Try.func51, Try.ntmps51
    go_wp2_with (first | (go_at_call 81; (with_reducible refine (C1.out _ (by repeat (with_reducible first | assumption | exact grA | apply grB | apply grC | apply grD | refine grE ?_ (by omega) _ | refine grF ?_ (by omega) _ _))).mono ?_); rintro e w1 ⟨rfl, x1, rfl⟩))
    go_ret
    exact ⟨rfl, (by repeat (with_reducible first | assumption | exact grA | apply grB | apply grC | apply grD | refine grE ?_ (by omega) _ | refine grF ?_ (by omega) _ _))⟩
  · simp only [if_true] at c1 ⊢
    by_cases hK : K = 0
    · subst hK
      rw [if_neg (fun h => h0 h.symm)]
      simp only [if_true] at c1
      have C1 := Lib.hid c1; clear c1
      go_enter Try.func51, Try.ntmps51
      go_wp2_with (first | (go_at_call 81; (with_reducible refine (C1.out _ (by repeat (with_reducible first | assumption | exact grA | apply grB | apply grC | apply grD | refine grE ?_ (by omega) _ | refine grF ?_ (by omega) _ _))).mono ?_); rintro e w1 ⟨rfl, x1, rfl⟩))
      go_ret
      exact ⟨rfl, (by repeat (with_reducible first | assumption | exact grA | apply grB | apply grC | apply grD | refine grE ?_ (by omega) _ | refine grF ?_ (by omega) _ _))⟩
    · simp only [if_neg hK] at c1
      have C1 := Lib.hid c1; clear c1 hK
      by_cases hd : K = kd
      · rw [if_pos hd]
        have e1 : (K == kd) = true := by simpa using hd
        have e2 : (K != kd) = false := by simp [hd]
        clear hd
        go_enter Try.func51, Try.ntmps51
        go_wp2_with (first | (go_at_call 81; (with_reducible refine (C1.out _ (by repeat (with_reducible first | assumption | exact grA | apply grB | apply grC | apply grD | refine grE ?_ (by omega) _ | refine grF ?_ (by omega) _ _))).mono ?_); rintro e w1 ⟨rfl, x1, rfl⟩))
        go_ret
        exact ⟨rfl, (by repeat (with_reducible first | assumption | exact grA | apply grB | apply grC | apply grD | refine grE ?_ (by omega) _ | refine grF ?_ (by omega) _ _))⟩
      · rw [if_neg hd]
        have e1 : (K == kd) = false := by simpa using hd
        have e2 : (K != kd) = true := by simpa using hd
        clear hd
        go_enter Try.func51, Try.ntmps51
        go_wp2_with (first | (go_at_call 81; (with_reducible refine (C1.out _ (by repeat (with_reducible first | assumption | exact grA | apply grB | apply grC | apply grD | refine grE ?_ (by omega) _ | refine grF ?_ (by omega) _ _))).mono ?_); rintro e w1 ⟨rfl, x1, rfl⟩))
        go_ret
        exact ⟨rfl, (by repeat (with_reducible first | assumption | exact grA | apply grB | apply grC | apply grD | refine grE ?_ (by omega) _ | refine grF ?_ (by omega) _ _))⟩

theorem ask_zero {m : Nat} {t : Ex} {kd : Int} (h : askE m t kd = 0) : mayE m 340 t = true ∧ kindE m t = kd := by
  unfold askE at h
  split at h
  · rename_i hm
    split at h
    · rename_i hk; exact ⟨hm, hk⟩
    · cases h
  · cases h
/-- what norm.Form gives of a length -/
def FormT (w : World) (S : Nat → Prop) (f : Fm) (e : Ending) (w' : World) : Prop :=
  ∃ (a : Option Addr) (cap : Nat), e = .returned (.tuple #[.agg (formC f.us (.slice a f.ps.length cap)).toArray, .int .i64 0]) ∧ w.grows w' ∧ f.us.length = 7 ∧ (∀ p ∈ f.us, I64p p) ∧ SlAt w' S 2 (PartR (FormOk w' S) w' S) (.slice a f.ps.length cap) f.ps

set_option maxRecDepth 100000 in
set_option maxHeartbeats 4000000 in
theorem normForm_ok (m : Nat) (t : Ex) (cs : List Value) (w : World) (S : Nat → Prop) (hS : ∀ g, w.heap.size ≤ g → S g) (h : ExAt w m t cs) (h0 : askE m t 2 = 0) (hsz : szE m t ≤ 1048576) :
    Calls Try.prog 16 #[.agg cs.toArray] w (FormT w S (formE m t)) := by
  obtain ⟨hm, hk⟩ := ask_zero h0
  obtain ⟨S1, hS1⟩ : ∃ S1 : Nat → Prop, ∀ g, S1 g ↔ (S g ∧ g ≠ w.heap.size + 1) := ⟨_, fun _ => Iff.rfl⟩
  have hSn : ∀ g, w.heap.size + 1 + 1 ≤ g → S1 g := fun g h => (hS1 g).2 ⟨hS g (by omega), by omega⟩
  have hSd : ∀ g, S1 g → S g ∧ g ≠ w.heap.size + 1 := fun g h => (hS1 g).1 h
  have c1 : ∀ W, w.grows W → Calls Try.prog 51 #[.agg cs.toArray, .int .i64 2] W (Gives W (.int .i64 0)) := fun W hW => h0 ▸ asked_any m t cs 2 W (h.grows hW) (by omega)
  have c2 : ∀ W, w.grows W → w.heap.size + 1 + 1 ≤ W.heap.size → Calls Try.prog 52 #[.agg cs.toArray] W (FormP W S1 (formE m t)) := fun W hW h1 =>
    form_all m t cs 340 W S1 (fun g hg0 => hSn g (by omega)) (h.grows hW) hm (Nat.le_refl _) hk hsz
  obtain ⟨v0, v1, v2, v3, va, vl, vc, rfl⟩ := ExAt_vals h
  generalize formE m t = F at *
  have C1 := Lib.hid c1; have C2 := Lib.hid c2; have HSD := Lib.hid hSd; clear c1 c2 h hm hk h0 hS hS1 hSn hSd hsz
  go_enter Try.func16, Try.ntmps16
  go_wp2_with (first | (go_at_call 51; (with_reducible refine (C1.out _ (by repeat (with_reducible first | assumption | exact grA | apply grB | apply grC | apply grD | refine grE ?_ (by omega) _ | refine grF ?_ (by omega) _ _))).mono ?_); rintro e w1 ⟨rfl, x1, rfl⟩) | (go_at_call 52; (with_reducible refine (C2.out _ (by repeat (with_reducible first | assumption | exact grA | apply grB | apply grC | apply grD | refine grE ?_ (by omega) _ | refine grF ?_ (by omega) _ _)) (by simp)).mono ?_); rintro e w1 ⟨a5, c5, rfl, hg5, h57, h5b, h5s⟩; have hgw1 : w.grows w1 := World.grows.trans (by repeat (with_reducible first | assumption | exact grA | apply grB | apply grC | apply grD | refine grE ?_ (by omega) _ | refine grF ?_ (by omega) _ _)) hg5; have q2 := hg5.row_eq (g := w.heap.size + 1) (by simp; omega); have H5B := Lib.hid h5b; have H5S := Lib.hid h5s; clear h5b h5s hg5; simp [go_sem] at q2; have q3 : w1.row (w.heap.size + 1) = some (.cells (formC (zs 0) (.slice none 0 0)).toArray 30) := q2; clear q2; have t2 := row_sz' q3))
  (with_reducible show bodyPost _ _ _ _ _ _); exact rett_30 rfl rfl (by simp [go_sem, q3, t2, h57]) rfl ⟨a5, c5, (by simp [go_sem, q3, t2, h57]), (by repeat (with_reducible first | assumption | exact grA | apply grB | apply grC | apply grD | refine grE ?_ (by omega) _ | refine grF ?_ (by omega) _ _)), h57, H5B.out, formS_keep H5S.out (fun g h => ⟨by rw [World.row_setRow, if_neg (HSD.out g h).2], (HSD.out g h).1⟩)⟩

end Go.Proofs.Ythmicnjigfcljaa

/- WALK over the statement's own check: jalousielaw12.awake: the form of 1px + 2em + 3px. No condition. -/
namespace Go.Proofs.Ythmicnjigfcljaa
open Go.RowKit
end Go.Proofs.Ythmicnjigfcljaa

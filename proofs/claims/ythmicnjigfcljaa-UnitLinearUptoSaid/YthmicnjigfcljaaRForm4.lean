/- WALKS over the document's answer: jalousieref12.Form: of a number of units, of a product, of any. No condition but that the expression stands in memory, that it may be, and that it has at most 2^20 nodes. (printed by wip/mkrform.py) -/
import Derived.Test.YthmicnjigfcljaaRForm
set_option linter.unusedSimpArgs false
set_option linter.unusedVariables false
namespace Go.Proofs.Ythmicnjigfcljaa
open Go.RowKit

set_option maxRecDepth 100000 in
set_option maxHeartbeats 4000000 in
theorem rform_k1 (n d u : Int) (a : Option Addr) (cap : Nat) (w : World) (S : Nat → Prop) (wn : I64 n) (wd : I64 d) (wu : I64 u) :
    Calls Try.prog 20 #[.agg #[.int .i64 1, .int .i64 n, .int .i64 d, .int .i64 u, .slice a 0 cap]] w (FormP w S (oneF u (n, d))) := by
  have o1 := fun W => refOne_any u n d W wu wn wd
  have hb : ∀ p ∈ oneU u (n, d), I64p p := oneU_bd ⟨wn, wd⟩
  have hl := oneU_len u (n, d)
  have e1 : (oneF u (n, d)).us = oneU u (n, d) := rfl
  have e2 : (oneF u (n, d)).ps = [] := rfl
  unfold FormP
  rw [e1, e2]
  generalize oneU u (n, d) = U at *
  have O1 := Lib.hid o1; have HB := Lib.hid hb
  clear o1 hb e1 e2 wn wd wu
  go_enter Try.func20, Try.ntmps20
  go_wp2_with (first | (go_at_call 56; (with_reducible refine (refIntL_any _ _).mono ?_); rintro e w1 ⟨rfl, x1, rfl⟩))
  go_loopg [12] 0 (fun gn v12 wr => v12 = .int .i64 0 ∧ w.grows wr ∧ wr.row w.heap.size = some (.cells #[.int .i64 1, .int .i64 n, .int .i64 d, .int .i64 u, .slice a 0 cap] 26) ∧ wr.row (w.heap.size + 1) = some (.cells (formC (zs 0) (.slice none 0 0)).toArray 30))
  case atStart => exact ⟨rfl, (by repeat (with_reducible first | assumption | exact grA | apply grB | apply grC | apply grD | refine grE ?_ (by omega) _ | refine grF ?_ (by omega) _ _)), by simp [go_sem] <;> (intros; omega), by simp [go_sem] <;> first | rfl | (intros; omega)⟩
  case round =>
    obtain ⟨rfl, hg, hx, hy⟩ := hrel
    have z1 := row_sz' hx
    have z2 := row_sz' hy
    go_wp2_with (first | (go_at_call 33; (with_reducible refine (O1.out _).mono ?_); rintro e w1 ⟨rfl, x1, rfl⟩))
    (with_reducible show bodyPost _ _ _ _ _ _); exact ret_30 rfl rfl (by simp [go_sem, hx, hy, z1, z2, hl]) rfl ⟨none, 0, (by simp [go_sem, hx, hy, z1, z2, hl]), (by repeat (with_reducible first | assumption | exact grA | apply grB | apply grC | apply grD | refine grE ?_ (by omega) _ | refine grF ?_ (by omega) _ _)), hl, HB.out, SlAt_nil _ _ _ _⟩

/-- the lengths among these -/
def lens (V : Ex → Fm) (K : Ex → Int) (l : List Ex) : List Fm := (l.filter fun t => K t == 2).map V
theorem lens_len {V : Ex → Fm} {K : Ex → Int} {l : List Ex} {t : Ex} (h : K t = 2) : lens V K (l ++ [t]) = lens V K l ++ [V t] := by
  unfold lens; rw [List.filter_append, List.map_append]; simp [h]
theorem lens_num {V : Ex → Fm} {K : Ex → Int} {l : List Ex} {t : Ex} (h : K t ≠ 2) : lens V K (l ++ [t]) = lens V K l := by
  unfold lens; rw [List.filter_append, List.map_append]; simp [h]
theorem lens_le {V : Ex → Fm} {K : Ex → Int} {l : List Ex} : (lens V K l).length ≤ l.length := by
  unfold lens; rw [List.length_map]; exact List.length_filter_le _ _
theorem lens_one {V : Ex → Fm} {K : Ex → Int} {l : List Ex} (h : (l.filter fun t => K t == 2).length = 1) : lens V K l = [theF V K l] := by
  obtain ⟨t, ht⟩ := List.length_eq_one_iff.1 h
  unfold lens theF
  rw [ht]; rfl

set_option maxRecDepth 100000 in
set_option maxHeartbeats 8000000 in
theorem rform_k4 (m : Nat) (IH0 : RFormIH m) (kids : List Ex) (a : Option Addr) (cap left : Nat) (w : World) (S : Nat → Prop) (hS : ∀ g, w.heap.size ≤ g → S g) (hlc : kids.length ≤ cap) (hc : cap ≤ 9223372036854775807) (hkids : KidsAt w m kids a)
    (hmay : kids.all (mayE m left) = true) (hleft : left ≤ 340) (hkind : kindE (m + 1) (.mk 4 0 0 0 kids) = 2) (hsz : szE (m + 1) (.mk 4 0 0 0 kids) ≤ 1048576) (hbd : ∀ t ∈ kids, bdE m t) :
    Calls Try.prog 20 #[.agg #[.int .i64 4, .int .i64 0, .int .i64 0, .int .i64 0, .slice a kids.length cap]] w (FormP w S (formE (m + 1) (.mk 4 0 0 0 kids))) := by
  have hn : kids.length < 1048576 := Nat.lt_of_lt_of_le szE_kids hsz
  obtain ⟨hk1, hk2⟩ := kind_prod hkind
  have hmem : ∀ i (hlt : i < kids.length), mayE m left kids[i] = true ∧ szE m kids[i] ≤ 1048576 := fun i hlt =>
    ⟨List.all_eq_true.1 hmay _ (List.getElem_mem hlt), Nat.le_of_lt (Nat.lt_of_lt_of_le (szE_kid (List.getElem_mem hlt)) hsz)⟩
  have IH1 : ∀ i (hlt : i < kids.length) cs' W T, (∀ g, W.heap.size ≤ g → T g) → kindE m kids[i] = 2 → ExAt W m kids[i] cs' → Calls Try.prog 20 #[.agg cs'.toArray] W (FormP W T (formE m kids[i])) :=
    fun i hlt cs' W T hT hk h => IH0 _ _ left _ T hT h (hmem i hlt).1 hleft hk (hmem i hlt).2
  have IH2 : ∀ i (hlt : i < kids.length) cs' W, kindE m kids[i] ≠ 2 → ExAt W m kids[i] cs' → Calls Try.prog 57 #[.agg cs'.toArray] W (Gives W (ratV (numE m kids[i]))) :=
    fun i hlt cs' W hk h => refNumber_any m _ _ left _ h (hmem i hlt).1 (by rcases hk2 _ (List.getElem_mem hlt) with h | h; exact h; exact absurd h hk) (hmem i hlt).2
  have IH3 : ∀ i (hlt : i < kids.length) cs' W, ExAt W m kids[i] cs' → Calls Try.prog 54 #[.agg cs'.toArray] W (Gives W (.int .i64 (kindE m kids[i]))) := fun i hlt cs' W h => refKind_any m _ cs' W h
  have hfz : szF (theF (formE m) (kindE m) kids) ≤ 4194304 := by
    unfold theF
    cases hq : (kids.filter fun t => kindE m t == 2) with
    | nil => show szF noneF ≤ _; unfold noneF; rw [szF, szP]; omega
    | cons t l =>
      have ht : t ∈ kids := (List.mem_filter.1 (by rw [hq]; exact List.mem_cons_self)).1
      have := szF_formE m left t (List.all_eq_true.1 hmay t ht)
      have h2 := szE_kid (m := m) (k := 4) (n := 0) (d := 0) (u := 0) ht
      show szF (formE m t) ≤ _
      omega
  have hNbd : ∀ l, (∀ t ∈ l, t ∈ kids) → ∀ p ∈ nums (numE m) (kindE m) l, I64p p := fun l hl p hp => by
    obtain ⟨t, ht, rfl⟩ := List.mem_map.1 hp
    exact numE_bd m t (hbd t (hl t (List.mem_filter.1 ht).1))
  have hNb : ∀ t ∈ kids, I64p (numE m t) := fun t ht => numE_bd m t (hbd t ht)
  rw [formE_prod]
  clear hsz hmay IH0 hkind hmem hbd
  generalize formE m = V at *
  generalize numE m = N at *
  generalize kindE m = K at *
  have IHF := Lib.hid IH1; have IHN := Lib.hid IH2; have IHK := Lib.hid IH3; have HK := Lib.hid hkids; have HFZ := Lib.hid hfz; have HK1 := Lib.hid hk1; have HK2 := Lib.hid hk2; have HNB := Lib.hid hNbd; have HS := Lib.hid hS; have HNb := Lib.hid hNb
  clear IH1 IH2 IH3 hkids hfz hk1 hk2 hNbd hS hNb
  go_enter Try.func20, Try.ntmps20
  go_wp2_with (first | (go_at_call 56; (with_reducible refine (refIntL_any _ _).mono ?_); rintro e w1 ⟨rfl, x1, rfl⟩))
  generalize ho : w.heap.size + 1 + 1 + x1.bs.size = o
  have ho1 : w.heap.size + 1 < o := by omega
  have ne1 : (w.heap.size = o) = False := by apply eq_false; omega
  have ne2 : (o = w.heap.size) = False := by apply eq_false; omega
  have ne3 : (w.heap.size + 1 = o) = False := by apply eq_false; omega
  have ne4 : (o = w.heap.size + 1) = False := by apply eq_false; omega
  obtain ⟨S1, hS1⟩ : ∃ S1 : Nat → Prop, ∀ g, S1 g ↔ (S g ∧ g ≠ w.heap.size + 1 ∧ g ≠ o) := ⟨_, fun _ => Iff.rfl⟩
  have hSn : ∀ g, o + 1 ≤ g → S1 g := fun g h => (hS1 g).2 ⟨HS.out g (by omega), by omega, by omega⟩
  have hSd : ∀ g, S1 g → S g ∧ g ≠ w.heap.size + 1 ∧ g ≠ o := fun g h => (hS1 g).1 h
  have HSN := Lib.hid hSn; have HSD := Lib.hid hSd; clear hS1 hSn hSd HS
  go_loopg [3, 5, 12] kids.length (fun gn v3 v5 v12 wj => ∃ i : Nat, Hid (gn + i = kids.length) ∧ i ≤ kids.length ∧ v12 = .int .i64 i ∧ v5 = .bool ((nums N K (kids.take i)).length == 0) ∧ w.grows wj ∧ wj.row w.heap.size = some (.cells #[.int .i64 4, .int .i64 0, .int .i64 0, .int .i64 0, .slice a kids.length cap] 26) ∧
    wj.row (w.heap.size + 1) = some (.cells (formC (zs 0) (.slice none 0 0)).toArray 30) ∧ wj.row o = some (.cells #[.int .i64 (kR (nums N K (kids.take i))).1, .int .i64 (kR (nums N K (kids.take i))).2] 23) ∧ Hid (OwnAt wj (o + 1) 30 15 (FormOk wj (exS S1 v3)) v3 (lens V K (kids.take i))))
  case atStart => exact ⟨0, rfl, Nat.zero_le _, rfl, rfl, (by repeat (with_reducible first | assumption | exact grA | apply grB | apply grC | apply grD | refine grE ?_ (by omega) _ | refine grF ?_ (by omega) _ _)), by simp [go_sem, ho, ne1, ne2, ne3, ne4], by simp [go_sem, ho, ne1, ne2, ne3, ne4]; rfl, by simp [go_sem, ho, ne1, ne2, ne3, ne4]; exact ⟨rfl, rfl⟩, OwnAt_nil _ _ _ _ _⟩
  case round =>
    obtain ⟨i, HGN, hi, rfl, rfl, hg, hx, hy, hz, HW⟩ := hrel
    have z1 := row_sz' hx; have z2 := row_sz' hy; have z3 := row_sz' hz
    by_cases hlt : i < kids.length
    · rcases HK.out with h | ⟨g, off, rfl, hcell⟩
      · rw [h] at hlt; cases hlt
      obtain ⟨cs', hel, hex⟩ := hcell i kids[i] (by simp [hlt])
      have hl5 := ExAt_len hex
      have he := hel.grows hg
      unfold eltAt at he
      rw [hl5] at he
      have zr := lt_sz (hel.grows hg).lt
      have e3 : segOk (off + i * 5) 5 (wr.row g) = true := he.1
      have e4 : segV (off + i * 5) 5 (wr.row g) = .agg cs'.toArray := he.2
      have htk : kids.take (i + 1) = kids.take i ++ [kids[i]] := List.take_succ_eq_append_getElem hlt
      have ck : ∀ W, w.grows W → Calls Try.prog 54 #[.agg cs'.toArray] W (Gives W (.int .i64 (K kids[i]))) := fun W hW => IHK.out i hlt cs' W (hex.grows hW)
      have hbs : o + 1 ≤ wr.heap.size := z3.1
      by_cases hk : K kids[i] = 2
      · have c1 : ∀ W, wr.grows W → Calls Try.prog 20 #[.agg cs'.toArray] W (FormP W (exS S1 u3) (V kids[i])) := fun W hW => by
          have hs1 := hW.below.size
          refine IHF.out i hlt cs' W _ (fun g hg0 => ⟨HSN.out g (by omega), fun e => ?_⟩) hk (hex.grows (hg.trans hW))
          have := (HW.out.lt e).2; omega
        have h1 : lens V K (kids.take (i + 1)) = lens V K (kids.take i) ++ [V kids[i]] := by rw [htk]; exact lens_len hk
        have h2 : nums N K (kids.take (i + 1)) = nums N K (kids.take i) := by rw [htk]; exact nums_len hk
        rw [hk] at ck
        obtain ⟨css, p1, p2, p3⟩ := HW.out
        have hll : (lens V K (kids.take i)).length ≤ 1048576 := by
          have := lens_le (V := V) (K := K) (l := kids.take i)
          rw [List.length_take] at this; omega
        obtain ⟨k0, k1, k2, k3, va, vl, vc, rfl⟩ := ExAt_vals hex
        generalize V kids[i] = F at *
        generalize nums N K (kids.take i) = L at *
        have CK := Lib.hid ck; have C1 := Lib.hid c1; have H1 := Lib.hid h1; have H2 := Lib.hid h2; have P1 := Lib.hid p1; have P2 := Lib.hid p2; have P3 := Lib.hid p3
        clear ck c1 h1 h2 hk hel he hex hl5 hcell HK htk p1 p2 p3
        go_wp2_with (first | (go_at_call 54; (with_reducible refine (CK.out _ (by repeat (with_reducible first | assumption | exact grA | apply grB | apply grC | apply grD | refine grE ?_ (by omega) _ | refine grF ?_ (by omega) _ _))).mono ?_); rintro e w1 ⟨rfl, x1, rfl⟩) | (go_at_call 20; (with_reducible refine (C1.out _ (by repeat (with_reducible first | assumption | exact grA | apply grB | apply grC | apply grD | refine grE ?_ (by omega) _ | refine grF ?_ (by omega) _ _))).mono ?_); rintro e w1 ⟨a5, c5, rfl, hg5, h57, h5b, h5s⟩; have hrw1 : wr.grows w1 := World.grows.trans (by repeat (with_reducible first | assumption | exact grA | apply grB | apply grC | apply grD | refine grE ?_ (by omega) _ | refine grF ?_ (by omega) _ _)) hg5; have hgw1 : w.grows w1 := World.grows.trans hg hrw1; have hs9 := hrw1.below.size; have q1 := (hrw1.row_eq z1.1).trans hx; have q2 := (hrw1.row_eq z2.1).trans hy; have q4 := (hrw1.row_eq z3.1).trans hz; have t1 := row_sz' q1; have t2 := row_sz' q2; have t4 := row_sz' q4; have H5B := Lib.hid h5b; have H5S := Lib.hid h5s; clear h5b h5s hg5) | (at_builtin; refine wpList_app w (o + 1) rfl (.tmp 19) (.tmp 22) _ rfl 30 (.agg #[.int .i64 0, .int .i64 0, .int .i64 0, .int .i64 0, .int .i64 0, .int .i64 0, .int .i64 0, .int .i64 0, .int .i64 0, .int .i64 0, .int .i64 0, .int .i64 0, .int .i64 0, .int .i64 0, .slice none 0 0]) 15 136 Try.underlying49 (by kernel_rfl) rfl (by omega) (by omega) _ (lens V K (kids.take i)).length _ rfl (P3.out.grows (by repeat (with_reducible first | assumption | exact grA | apply grB | apply grC | apply grD | refine grE ?_ (by omega) _ | refine grF ?_ (by omega) _ _))) _ 1 _ (formC F.us (.slice a5 F.ps.length c5)) rfl (formC_len _ h57) (cells_of_row (e := 30) (fr := (0, 0)) (by simp [go_sem])) (fun u hu => List.all_eq_true.1 (formC_one rfl) u hu) (by omega) (by repeat (with_reducible first | assumption | exact grA | apply grB | apply grC | apply grD | refine grE ?_ (by omega) _ | refine grF ?_ (by omega) _ _)) (by omega) (by simp; omega) ?_; intro v' w' hg' HO' HR' HG' HA'))
        go_wp2_with fail
        go_roundg (kids.length - (i + 1))
        case rel =>
          refine ⟨i + 1, Lib.hid (by omega), by omega, by go_num, by rw [H2.out], hg', (HR'.out _ (by omega)).trans (by simp [go_sem, q1, t1]), (HR'.out _ (by omega)).trans (by simp [go_sem, q2, t2]), by rw [H2.out]; exact (HR'.out _ (by omega)).trans (by simp [go_sem, q4, t4]), Lib.hid ?_⟩
          rw [H1.out]
          refine forms_append P1.out (fun i x cs hx hc => ⟨(P2.out i x cs hx hc).1, (P2.out i x cs hx hc).2.grows (hrw1.trans (World.grows.alloc World.grows.refl _))⟩) ((FormOk_of_parts h57 H5B.out H5S.out).grows (World.grows.alloc World.grows.refl _)) ?_ HG'.out HA'.out
          exact HO'.out
        case measure => have := HGN.out; omega
      · have hk1 : (K kids[i] == 2) = false := by simpa using hk
        have cn : ∀ W, w.grows W → Calls Try.prog 57 #[.agg cs'.toArray] W (Gives W (ratV (N kids[i]))) := fun W hW => IHN.out i hlt cs' W hk (hex.grows hW)
        have h1 : lens V K (kids.take (i + 1)) = lens V K (kids.take i) := by rw [htk]; exact lens_num hk
        have h2 : nums N K (kids.take (i + 1)) = nums N K (kids.take i) ++ [N kids[i]] := by rw [htk]; exact nums_num hk
        have hqb := HNb.out _ (List.getElem_mem hlt)
        have hkb := kR_bd (HNB.out (kids.take i) (fun t ht => List.mem_of_mem_take ht))
        obtain ⟨k0, k1, k2, k3, va, vl, vc, rfl⟩ := ExAt_vals hex
        generalize K kids[i] = kk at *
        have HEX := Lib.hid hex
        generalize N kids[i] = q at *
        generalize nums N K (kids.take i) = L at *
        have H1 := Lib.hid h1; have CK := Lib.hid ck
        clear ck h1 hk hel he hex hl5 hcell HK htk HEX
        by_cases hL : L = []
        · subst hL
          have h3 : kR (nums N K (kids.take (i + 1))) = q := by rw [h2]; rfl
          have h4 : ((nums N K (kids.take (i + 1))).length == 0) = false := by rw [h2]; rfl
          have e1 : ((([] : List (Int × Int)).length == 0)) = true := rfl
          obtain ⟨q1, q2⟩ := q
          have hz' : wr.row o = some (.cells #[.int .i64 1, .int .i64 1] 23) := hz
          have CN := Lib.hid cn; have H3 := Lib.hid h3; have H4 := Lib.hid h4
          clear cn h2 h3 h4 hz hqb hkb
          go_wp2_with (first | (go_at_call 54; (with_reducible refine (CK.out _ (by repeat (with_reducible first | assumption | exact grA | apply grB | apply grC | apply grD | refine grE ?_ (by omega) _ | refine grF ?_ (by omega) _ _))).mono ?_); rintro e w1 ⟨rfl, x1, rfl⟩) | (go_at_call 57; (with_reducible refine (CN.out _ (by repeat (with_reducible first | assumption | exact grA | apply grB | apply grC | apply grD | refine grE ?_ (by omega) _ | refine grF ?_ (by omega) _ _))).mono ?_); rintro e w1 ⟨rfl, x2, rfl⟩))
          go_roundg (kids.length - (i + 1))
          case rel =>
            refine ⟨i + 1, Lib.hid (by omega), by omega, by go_num, by rw [H4.out], (by repeat (with_reducible first | assumption | exact grA | apply grB | apply grC | apply grD | refine grE ?_ (by omega) _ | refine grF ?_ (by omega) _ _)), by simp [go_sem, hx, z1, ne1, ne2, ne3, ne4], by simp [go_sem, hy, z2, ne1, ne2, ne3, ne4], by rw [H3.out]; simp [go_sem, hz', z3], Lib.hid ?_⟩
            rw [H1.out]
            first
              | exact (OwnAt.forms_set (o := o) HW.out (fun g h => (HSD.out g h.1).2.2) (by omega)).forms_mono (by repeat (with_reducible first | assumption | exact grA | apply grB | apply grC | apply grD | refine grE ?_ (by omega) _ | refine grF ?_ (by omega) _ _)) (fun g h _ => h)
              | exact OwnAt.forms_set (HW.out.forms_mono (by repeat (with_reducible first | assumption | exact grA | apply grB | apply grC | apply grD | refine grE ?_ (by omega) _ | refine grF ?_ (by omega) _ _)) (fun g h _ => h)) (fun g h => (HSD.out g h.1).2.2) (by omega)
          case measure => have := HGN.out; omega
        · have e1 : (L.length == 0) = false := by
            cases L with
            | nil => exact absurd rfl hL
            | cons p l => rfl
          have h3 : kR (nums N K (kids.take (i + 1))) = foldQ (1, 1) mulQ [kR L, q] := by rw [h2]; exact kR_next hL q
          have h4 : ((nums N K (kids.take (i + 1))).length == 0) = false := by rw [h2]; simp
          generalize kR L = kq at *
          obtain ⟨kq1, kq2⟩ := kq
          obtain ⟨q1, q2⟩ := q
          have m1 : ∀ W G, W.row G = some (.cells #[.int .i64 kq1, .int .i64 kq2, .int .i64 q1, .int .i64 q2] 23) → Calls Try.prog 44 #[.slice (some ⟨G, 0, none⟩) 2 2] W (Gives W (ratV (foldQ (1, 1) mulQ [(kq1, kq2), (q1, q2)]))) :=
            fun W G h => refMulL_any _ _ W (rats2 h hkb hqb)
          generalize foldQ (1, 1) mulQ [(kq1, kq2), (q1, q2)] = R at *
          obtain ⟨R1, R2⟩ := R
          have CN := Lib.hid cn; have M1 := Lib.hid m1; have H3 := Lib.hid h3; have H4 := Lib.hid h4
          clear cn m1 h2 h3 h4 hL hqb hkb
          have y1 := z1.1; have y2 := z2.1
          go_wp2_with (first | (go_at_call 54; (with_reducible refine (CK.out _ (by repeat (with_reducible first | assumption | exact grA | apply grB | apply grC | apply grD | refine grE ?_ (by omega) _ | refine grF ?_ (by omega) _ _))).mono ?_); rintro e w1 ⟨rfl, x1, rfl⟩))
          refine wp_region_plus_seq_tail 5 (by kernel_rfl) (by kernel_rfl) (fun x0 => ?_)
          simp only [List.take_succ_cons, List.take_zero, List.drop_succ_cons, List.drop_zero]
          repeat (any_goals (first | (refine wpSeqL_free rfl ?_; first | (go_big_quiet_skip; refine wpQuiet_nil ?_) | (go_big_quiet_step (fail); refine wpQuiet_nil ?_) | (refine wpQuiet_step (fun K hK => ?_); go_simp; split <;> (refine hK _ ?_; clear hK K; refine wpQuiet_nil ?_))) | (refine wpSeqL_link rfl (fun K hK => ?_); go_simp; first | first | (refine hK _ _ (by show World.grows _ _; repeat (first | assumption | exact grA | apply grB | apply grC | apply grD)) ?_; clear hK K) | (((first | (go_at_call 57; (with_reducible refine (CN.out _ (by repeat (with_reducible first | assumption | exact grA | apply grB | apply grC | apply grD | refine grE ?_ (by omega) _ | refine grF ?_ (by omega) _ _))).mono ?_); rintro e w1 ⟨rfl, x2, rfl⟩) | (go_at_call 44; (with_reducible refine (M1.out _ _ ?_).mono ?_); (simp [go_sem, hz, z3]); rintro e w1 ⟨rfl, x3, rfl⟩))); refine ⟨_, rfl, hK _ _ (by show World.grows _ _; repeat (first | assumption | exact grA | apply grB | apply grC | apply grD)) ?_⟩; clear hK K) | (split <;> (first | (refine hK _ _ (by show World.grows _ _; repeat (first | assumption | exact grA | apply grB | apply grC | apply grD)) ?_; clear hK K) | (((first | (go_at_call 57; (with_reducible refine (CN.out _ (by repeat (with_reducible first | assumption | exact grA | apply grB | apply grC | apply grD | refine grE ?_ (by omega) _ | refine grF ?_ (by omega) _ _))).mono ?_); rintro e w1 ⟨rfl, x2, rfl⟩) | (go_at_call 44; (with_reducible refine (M1.out _ _ ?_).mono ?_); (simp [go_sem, hz, z3]); rintro e w1 ⟨rfl, x3, rfl⟩))); refine ⟨_, rfl, hK _ _ (by show World.grows _ _; repeat (first | assumption | exact grA | apply grB | apply grC | apply grD)) ?_⟩; clear hK K))))))
          all_goals (refine wpSeqL_end ?_)
          go_wp2_with fail
          go_roundg (kids.length - (i + 1))
          case rel =>
            refine ⟨i + 1, Lib.hid (by omega), by omega, by go_num, by rw [H4.out], (by repeat (with_reducible first | assumption | exact grA | apply grB | apply grC | apply grD | refine grE ?_ (by omega) _ | refine grF ?_ (by omega) _ _)), by simp [go_sem, hx, z1, ne1, ne2, ne3, ne4] <;> (intros; omega), by simp [go_sem, hy, z2, ne1, ne2, ne3, ne4] <;> (intros; omega), by rw [H3.out]; simp [go_sem, hz, z3], Lib.hid ?_⟩
            rw [H1.out]
            first
              | exact (OwnAt.forms_set (o := o) HW.out (fun g h => (HSD.out g h.1).2.2) (by omega)).forms_mono (by repeat (with_reducible first | assumption | exact grA | apply grB | apply grC | apply grD | refine grE ?_ (by omega) _ | refine grF ?_ (by omega) _ _)) (fun g h _ => h)
              | exact OwnAt.forms_set (HW.out.forms_mono (by repeat (with_reducible first | assumption | exact grA | apply grB | apply grC | apply grD | refine grE ?_ (by omega) _ | refine grF ?_ (by omega) _ _)) (fun g h _ => h)) (fun g h => (HSD.out g h.1).2.2) (by omega)
          case measure => have := HGN.out; omega
    · obtain rfl : i = kids.length := by omega
      have hW := HW.out
      have hN := HNB.out kids (fun t ht => ht); have hF := HFZ.out
      rw [List.take_length] at hW hz
      rw [lens_one HK1.out] at hW
      have hkb := kR_bd hN
      have hck := cleanQ_kR (nums N K kids)
      generalize nums N K kids = L at *
      generalize theF V K kids = G at *
      generalize hkq : kR L = kq at *
      obtain ⟨kq1, kq2⟩ := kq
      have hsl0 : SlAt wr S1 15 (FormOk wr S1) u3 [G] := (hW.forms_mono World.grows.refl (T' := S1) (fun g h _ => h.1)).slAt (by omega) (fun g hg0 => HSN.out g (by have := (hW.lt hg0).1; omega))
      obtain ⟨g', off', cap', us, a1, n1, c1', ps, rfl, hc1, hc2, rfl, hn1, hu7, hub, hg3, eo, ev, hsl⟩ := slAt_one hsl0
      have c1 : ∀ W, wr.grows W → Calls Try.prog 29 #[.agg (formC us (.slice a1 n1 c1')).toArray, .agg #[.int .i64 kq1, .int .i64 kq2]] W (FormP W S1 (scaleF (foldQ (1, 1) mulQ L) (.mk us ps))) := fun W hWg => by
        have hs1 := hWg.below.size
        have := refScale_any _ _ kq1 kq2 W S1 (fun g hg0 => HSN.out g (by have := z3.1; omega)) ((FormOk_form hu7 hub hsl).grows hWg) hkb.1 hkb.2 hF
        rw [hck] at this
        exact this
      have zg := lt_sz hg3
      generalize scaleF (foldQ (1, 1) mulQ L) (.mk us ps) = F at *
      have C1 := Lib.hid c1
      clear c1 hW HW hsl0 hsl hub hn1 hg3 hkb hck hkq hN hF HNB HFZ HK1 HK2
      go_wp2_with fail
      refine wp_region_plus_seq_tail 5 (by kernel_rfl) (by kernel_rfl) (fun x0 => ?_)
      simp only [List.take_succ_cons, List.take_zero, List.drop_succ_cons, List.drop_zero]
      repeat (any_goals (first | (refine wpSeqL_free rfl ?_; first | (go_big_quiet_skip; refine wpQuiet_nil ?_) | (go_big_quiet_step (fail); refine wpQuiet_nil ?_) | (refine wpQuiet_step (fun K hK => ?_); go_simp; split <;> (refine hK _ ?_; clear hK K; refine wpQuiet_nil ?_))) | (refine wpSeqL_link rfl (fun K hK => ?_); go_simp; first | first | (refine hK _ _ (by show World.grows _ _; repeat (first | assumption | exact grA | apply grB | apply grC | apply grD)) ?_; clear hK K) | (((first | (go_at_call 29; (with_reducible refine (C1.out _ (by repeat (with_reducible first | assumption | exact grA | apply grB | apply grC | apply grD | refine grE ?_ (by omega) _ | refine grF ?_ (by omega) _ _))).mono ?_); rintro e w2 ⟨a6, c6, rfl, hg6, h67, h6b, h6s⟩; have hrw2 : wr.grows w2 := World.grows.trans (by repeat (with_reducible first | assumption | exact grA | apply grB | apply grC | apply grD | refine grE ?_ (by omega) _ | refine grF ?_ (by omega) _ _)) hg6; have H6B := Lib.hid h6b; have H6S := Lib.hid h6s; clear h6b h6s hg6))); refine ⟨_, rfl, hK _ _ (by show World.grows _ _; repeat (first | assumption | exact grA | apply grB | apply grC | apply grD)) ?_⟩; clear hK K) | (split <;> (first | (refine hK _ _ (by show World.grows _ _; repeat (first | assumption | exact grA | apply grB | apply grC | apply grD)) ?_; clear hK K) | (((first | (go_at_call 29; (with_reducible refine (C1.out _ (by repeat (with_reducible first | assumption | exact grA | apply grB | apply grC | apply grD | refine grE ?_ (by omega) _ | refine grF ?_ (by omega) _ _))).mono ?_); rintro e w2 ⟨a6, c6, rfl, hg6, h67, h6b, h6s⟩; have hrw2 : wr.grows w2 := World.grows.trans (by repeat (with_reducible first | assumption | exact grA | apply grB | apply grC | apply grD | refine grE ?_ (by omega) _ | refine grF ?_ (by omega) _ _)) hg6; have H6B := Lib.hid h6b; have H6S := Lib.hid h6s; clear h6b h6s hg6))); refine ⟨_, rfl, hK _ _ (by show World.grows _ _; repeat (first | assumption | exact grA | apply grB | apply grC | apply grD)) ?_⟩; clear hK K))))))
      all_goals (refine wpSeqL_end ?_)
      have hgw2 : w.grows w2 := World.grows.trans hg hrw2
      have q3 := (hrw2.row_eq z2.1).trans hy
      have t3 := row_sz' q3
      go_wp2_with fail
      (with_reducible show bodyPost _ _ _ _ _ _); exact ret_30 rfl rfl (by simp [go_sem, q3, t3, h67]) rfl ⟨a6, c6, (by simp [go_sem, q3, t3, h67]), (by repeat (with_reducible first | assumption | exact grA | apply grB | apply grC | apply grD | refine grE ?_ (by omega) _ | refine grF ?_ (by omega) _ _)), h67, H6B.out, formS_keep H6S.out (fun g h => ⟨by rw [World.row_setRow, if_neg (HSD.out g h).2.1], (HSD.out g h).1⟩)⟩

theorem rform_all : ∀ (m : Nat), RFormIH m
  | 0 => fun _ _ _ _ _ _ h _ _ _ _ => h.elim
  | m + 1 => by
    intro t cs left w S hS h hm hleft hkd hsz
    have IH := rform_all m
    have hb := ExAt_bd _ _ _ h
    obtain ⟨k, n, d, u, kids⟩ := t
    obtain ⟨wk, wn, wd, wu, a, cap, rfl, hlc, hc, hkids⟩ := h
    show Calls Try.prog 20 #[.agg #[.int .i64 k, .int .i64 n, .int .i64 d, .int .i64 u, .slice a kids.length cap]] w _
    unfold mayE at hm
    split at hm
    · cases hm
    rename_i hl0
    split at hm
    · rename_i hk1
      subst hk1
      simp only [Bool.and_eq_true, decide_eq_true_eq] at hm
      have hl := hm.1
      obtain rfl := List.length_eq_zero_iff.1 hl
      rw [formE_1]
      exact rform_k1 n d u a cap w S wn wd wu
    · rename_i hk1
      simp only [Bool.and_eq_true, decide_eq_true_eq] at hm
      obtain ⟨⟨rfl, rfl⟩, rfl, hok, hall⟩ := hm
      have hkk : k = 2 ∨ k = 4 ∨ k = 6 ∨ k = 7 ∨ k = 3 ∨ k = 5 ∨ k = 8 := by
        unfold lenOk at hok
        split at hok
        · omega
        · split at hok
          · omega
          · split at hok
            · omega
            · cases hok
      by_cases hk4 : k = 4
      · subst hk4
        exact rform_k4 m IH kids a cap (left - 1) w S hS hlc hc hkids hall (by omega) hkd hsz hb.2
      · obtain ⟨h5, hkk2⟩ := kind_kids hkd hk1 hk4
        rcases hkk with rfl | rfl | rfl | rfl | rfl | rfl | rfl
        · rw [formE_2]
          exact rform_k2 m IH kids a cap (left - 1) w S hS hlc hc hkids hall (by omega) hkk2 hsz (by simpa [lenOk] using hok)
        · exact absurd rfl hk4
        · rw [formE_6]
          exact rform_k6 m IH kids a cap (left - 1) w S hS hlc hc hkids hall (by omega) hkk2 hsz (by simpa [lenOk] using hok)
        · rw [formE_7]
          exact rform_k7 m IH kids a cap (left - 1) w S hS hlc hc hkids hall (by omega) hkk2 hsz (by simpa [lenOk] using hok)
        · have hl : kids.length = 1 := by simpa [lenOk] using hok
          rw [formE_3]
          have := rform_k3 m IH kids a cap (left - 1) w S hS (hl ▸ hlc) hc hkids hall (by omega) hkk2 hsz hl
          rw [hl]; exact this
        · exact absurd rfl h5
        · have hl : kids.length = 3 := by simpa [lenOk] using hok
          rw [formE_8]
          have := rform_k8 m IH kids a cap (left - 1) w S hS (hl ▸ hlc) hc hkids hall (by omega) hkk2 hsz hl
          rw [hl]; exact this

end Go.Proofs.Ythmicnjigfcljaa

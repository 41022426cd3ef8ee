/- WALK over vars: values are put behind tokens. No condition but bounds. -/
import Derived.Test.YthcaphoejplecaaGreatDoorVaD
set_option linter.unusedSimpArgs false
set_option linter.unusedVariables false
namespace Go
open Go.RowKit
theorem over_no {o : List Tk} (h : 512 < o.length) : over512 (some o) = none := by
  show (if 512 < o.length then none else some o) = none
  rw [if_pos h]
theorem over_yes {o : List Tk} (h : ¬ 512 < o.length) : over512 (some o) = some o := by
  show (if 512 < o.length then none else some o) = some o
  rw [if_neg h]
theorem putP_bound {k : Known} {n : Nat} {out o : List Tk} {l : List Vt} (h : putP k (n + 1) out l = some o) (hl : out.length ≤ 601) : o.length ≤ 601 := by
  by_cases h1 : out.length ≤ 512
  · have := (putPR_same k (n + 1) l out h1).2 o h; omega
  · cases l with
    | nil => rw [putP_nil] at h; cases h; exact hl
    | cons v l => rw [putP_over k (n + 1) v l out (by omega)] at h; cases h
theorem shutTk_wf (k : Int) : (shutTk k).Wf := by
  refine ⟨?_, ?_, ?_, ?_⟩
  · show I64 (clo k)
    rcases clo_cases k with h | h | h | h <;> rw [h] <;> exact ⟨by decide, by decide⟩
  · show ByteArray.empty.size ≤ maxLen
    decide
  · show I64 0
    exact ⟨by decide, by decide⟩
  · show I64 0
    exact ⟨by decide, by decide⟩
/-- what comes behind -/
def nextP (k : Known) (n : Nat) (r : Option (List Tk)) (rest : List Vt) : Option (List Tk) := match r with | none => none | some o => putP k (n + 1) o rest
theorem putP_next (k : Known) (n : Nat) (out : List Tk) (v : Vt) (l : List Vt) : putP k (n + 1) out (v :: l) = nextP k n (stepP k n out v) l := by
  rw [putP_cons]
  cases stepP k n out v with
  | none => rfl
  | some o => rfl
/-- an opener's step -/
def openP (r : Option (List Tk)) (kt : Int) : Option (List Tk) := match r with | none => none | some o => some (o ++ [shutTk kt])
theorem stepP_eq (k : Known) (n : Nat) (out : List Tk) (t : Tk) (ks : List Vt) : stepP k n out (.mk t ks) = over512 (if useT (.mk t ks) = true then useP k n out (.mk t ks) else if 0 < clo t.k then openP (putP k n (out ++ [t]) ks) t.k else some (out ++ [t])) := by
  unfold stepP openP useP
  rfl
theorem chk_open {n : Nat} {t : Tk} {ks : List Vt} (h : chkV n (.mk t ks) = true) (hc : clo t.k ≠ 0) : ∃ m, n = m + 1 ∧ mayV m ks = true := by
  unfold chkV at h
  simp only [Bool.and_eq_true] at h
  have h2 := h.2
  rw [if_neg (show ¬ clo (Vt.mk t ks).t.k = 0 from hc)] at h2
  cases n with
  | zero => simp at h2
  | succ m => exact ⟨m, rfl, h2⟩
end Go
namespace Go.Proofs.YthcaphoejplecaaGreatDoor
open Go.RowKit
section
variable {n : Nat} {w0 w W : World} {B : Nat} {mp : Value} {k : Known} {Sk : Nat → Prop} {vO v1 : Value} {out : List Tk} {S : Nat → Prop} {vl : Value} {l : List Vt}
theorem rowB {r : Option Nat} (gb : w.grownBy W r) {g : Nat} (h : g < w.heap.size) (hne : r ≠ some g) : W.row g = w.row g := row_growV gb h (fun e => hne e.symm)
theorem PutPre.vlAt (h : PutPre n w0 w B mp k Sk vO out S vl l) (gb : w.grownBy W vO.ownBlock) : VsAt W (fun g => S g ∧ g < w.heap.size) vl l :=
  h.vl.keep fun g hS hl => ⟨rowB gb hl (h.dl g hS), hS, hl⟩
theorem PutPre.knAt (h : PutPre n w0 w B mp k Sk vO out S vl l) (gb : w.grownBy W vO.ownBlock) : KAt W Sk mp k :=
  h.kn.keep fun g hS hl => ⟨rowB gb hl (fun e => by have := (h.own.1.lt g e).1; have := h.sk g hS; omega), hS⟩
theorem PutPre.dlAt (h : PutPre n w0 w B mp k Sk vO out S vl l) (gr : GrO w.heap.size vO v1) : ∀ g, S g ∧ g < w.heap.size → v1.ownBlock ≠ some g := fun g hg e => by
  rcases gr with e1 | ⟨q, e1, e2⟩
  · exact h.dl g hg.1 (e1.symm.trans e)
  · rw [e1] at e; injection e with e; omega
end
theorem GrO.trans {s s' : Nat} {v v1 v2 : Value} (h : GrO s v v1) (h2 : GrO s' v1 v2) (hs : s ≤ s') : GrO s v v2 := by
  rcases h2 with e | ⟨q, e, hq⟩
  · rcases h with e1 | ⟨q, e1, hq⟩
    · exact .inl (e.trans e1)
    · exact .inr ⟨q, e.trans e1, hq⟩
  · exact .inr ⟨q, e, by omega⟩
theorem GrO.own {s : Nat} {v v1 : Value} (h : GrO s v v1) : ∀ q, v1.ownBlock = some q → v.ownBlock = some q ∨ s ≤ q := fun q e => by
  rcases h with e1 | ⟨q', e1, hq⟩
  · exact .inl (e1.symm.trans e)
  · rw [e1] at e; injection e with e; exact .inr (by omega)
/-- the state of the loop -/
structure PutSt (n : Nat) (w0 w : World) (B : Nat) (vO : Value) (wr : World) (v1 : Value) (o : List Tk) : Prop where
  g0 : w0.grows wr
  gb : w.grownBy wr vO.ownBlock
  own : TkO wr B v1 o
  gr : GrO w.heap.size vO v1
  len : o.length + n ≤ 600
set_option maxRecDepth 100000 in
set_option maxHeartbeats 8000000 in
theorem kput_step (n : Nat) (IH : ∀ m, n = m + 1 → PutC m) : PutC n := by
  intro w0 w B mp k Sk vO out S vl l h
  obtain ⟨aL, cL, rfl, hcap, hcap2⟩ := SlAt.len h.vl
  obtain ⟨aO, cO, rfl⟩ := own_slice h.own.1
  have HP := Lib.hid h
  have HIH := Lib.hid IH
  clear IH h
  obtain ⟨res, hres⟩ : ∃ res, putP k (n + 1) out l = res := ⟨_, rfl⟩
  have HRES := Lib.hid hres
  rw [hres]
  clear hres
  go_enter Tryz.func34, Tryz.ntmps34
  go_wp2_with fail
  go_loopg [1, 14] l.length (fun gn v1 v14 wj => ∃ (i : Nat) (o : List Tk) (a1 : Option Addr) (c1 : Nat), Hid (gn + i = l.length ∧ i ≤ l.length) ∧ v14 = .int .i64 i ∧ v1 = .slice a1 o.length c1 ∧ Hid (PutSt n w0 w B (.slice aO out.length cO) wj (.slice a1 o.length c1) o ∧ putP k (n + 1) o (l.drop i) = res))
  case atStart => exact ⟨0, out, aO, cO, Lib.hid ⟨by simp, Nat.zero_le _⟩, by go_num, rfl, Lib.hid ⟨⟨HP.out.g0, grownBy_of_grows World.grows.refl _, HP.out.own, .inl rfl, HP.out.len⟩, HRES.out⟩⟩
  case round =>
    obtain ⟨i, o, a1, c1, HQ, rfl, rfl, HS⟩ := hrel
    obtain ⟨j1, j2⟩ := HQ.out
    by_cases hlt : i < l.length
    · have iI : (i : Int) < (l.length : Int) := by omega
      have hgt : l[i]? = some l[i] := List.getElem?_eq_getElem hlt
      have hmem := List.getElem_mem hlt
      have hdrop : l.drop i = l[i] :: l.drop (i + 1) := List.drop_eq_getElem_cons hlt
      obtain ⟨g, off, cs, rfl, -, -, k1, hv⟩ := (HP.out.vlAt HS.out.1.gb).elt hgt
      have hchk : chkV n l[i] = true := by have := HP.out.may; rw [mayV_all, List.all_eq_true] at this; exact this _ hmem
      have hnod := Nat.le_trans (nodesL_mem hmem) HP.out.nod
      have HRE := Lib.hid (show nextP k n (stepP k n o l[i]) (l.drop (i + 1)) = res by rw [← HS.out.2, hdrop, putP_next])
      generalize l[i] = x at *
      obtain ⟨t, ks⟩ := x
      obtain ⟨twf, vk, rfl, hks⟩ := VOk_open hv
      obtain ⟨aK, cK, rfl, -, -⟩ := hks.len
      rw [stepP_eq] at HRE
      have HKS := Lib.hid hks
      have HTW := Lib.hid twf
      have HND := Lib.hid (show nodesL ks ≤ 4194304 by simp [Vt.nodes] at hnod; omega)
      have HCHK := Lib.hid hchk
      have HU := Lib.hid (show ∀ (g : Nat) (W : World), _ from fun g W => pvars1_any t twf g W)
      have HUT := Lib.hid (show useT (.mk t []) = useT (.mk t ks) from rfl)
      rw [HUT.out] at HU
      obtain ⟨kt, s, n1, d, q1, q2⟩ := t
      have z3 := lt_sz k1.lt
      obtain ⟨u1, u2⟩ := k1
      replace u1 : segOk (off + i * 7) 7 (wr.row g) = true := u1
      replace u2 : segV (off + i * 7) 7 (wr.row g) = .agg #[.int .i64 kt, .string s, .int .i64 n1, .int .i64 d, .bool q1, .bool q2, .slice aK ks.length cK] := u2
      have ii0 : (0 : Int) ≤ (i : Int) := by omega
      clear hgt hmem hdrop hv hks twf hchk hnod HUT
      go_upto_region 7 with ((go_at_call 53; (with_reducible refine (vclo_any kt _).mono ?_); rintro e w1 ⟨rfl, x1, rfl⟩))
      refine abs_rows (w := wr) (G := fun W => Code.wp _ _ _ _ W) (by repeat (with_reducible first | assumption | exact grA | apply grB | apply grC | apply grD | refine grE ?_ (by omega) _ | refine grF ?_ (by omega) _ _)) [(wr.heap.size, .cells #[.int .i64 kt, .string s, .int .i64 n1, .int .i64 d, .bool q1, .bool q2, .slice aK ks.length cK] 70)] (by simp [go_sem, *]) ?_
      intro w2 gw2 hl
      simp only [List.forall_mem_cons, List.not_mem_nil, false_implies, implies_true, and_true] at hl
      have x9 := hl
      have zx9 := row_sz' x9
      have hgl := HS.out.1.g0
      obtain ⟨g0, gb, ow, gr, hln⟩ := HS.out.1
      have HOW := Lib.hid ow
      have HGR := Lib.hid gr
      have HGB := Lib.hid gb
      have hs2 := gw2.below.size
      have hlt9 := zx9.1
      clear ow gr gb u1 u2 z3
      have HPRE : Hid (∀ (m : Nat) (W : World), m ≤ n → w2.grows W → mayV m ks = true → PutPre m w0 W B mp k Sk (.slice a1 o.length c1) o (fun g => S g ∧ g < w.heap.size) (.slice aK ks.length cK) ks) := Lib.hid fun m W hm hgW hmay => by
        have hgr := gw2.trans hgW
        have hwr := HGB.out.size
        exact ⟨g0.trans hgr, HP.out.b0, Nat.le_trans HP.out.bB (Nat.le_trans hwr hgr.below.size), ⟨HOW.out.1.grows hgr, HOW.out.2⟩, (HP.out.knAt HGB.out).grows hgr, HP.out.sk, HKS.out.grows hgr (fun _ _ _ h => h.grows hgr), HP.out.dlAt HGR.out, hmay, HND.out, by omega, by have := HP.out.n64; omega⟩
      have HG0 := Lib.hid g0
      have hn64 := HP.out.n64
      by_cases hu : useT (.mk ⟨kt, s, n1, d, q1, q2⟩ ks) = true
      · rw [hu] at HU
        rw [if_pos hu] at HRE
        obtain ⟨m, hm, hmay⟩ := chk_open HCHK.out (by
          have := hu
          rw [useT_eq] at this
          simp only [Bool.and_eq_true, decide_eq_true_iff] at this
          show clo kt ≠ 0
          rw [this.1]; decide)
        subst hm
        have HUSE := Lib.hid (fun (W : World) (hg : w2.grows W) => kuse_any (HIH.out m rfl) (HPRE.out m W (by omega) hg hmay) HTW.out hu)
        clear hu
        cases hp : useP k (m + 1) o (.mk ⟨kt, s, n1, d, q1, q2⟩ ks) with
        | none =>
          rw [hp] at HUSE HRE
          clear hp
          go_wp2_with (first | (go_at_call 51; go_loud ((with_reducible refine (HU.out _ _ (by simp [go_sem])).mono ?_); rintro r wq ⟨rfl, xq, rfl⟩)) | (go_at_call 54; go_loud ((with_reducible refine (HUSE.out _ (by repeat (with_reducible first | assumption | exact grA | apply grB | apply grC | apply grD | refine grE ?_ (by omega) _ | refine grF ?_ (by omega) _ _))).mono ?_); rintro r w7 ⟨v7, ok7, rfl, p1, p2, p3⟩; (obtain rfl : ok7 = false := p3.1))))
          go_ret2
          have e : res = none := by rw [← HRE.out]; rfl
          rw [e]
          exact ⟨_, _, rfl, p1, grownBy_trans (grownBy_trans HGB.out (grownBy_of_grows (gw2.trans (by repeat (with_reducible first | assumption | exact grA | apply grB | apply grC | apply grD | refine grE ?_ (by omega) _ | refine grF ?_ (by omega) _ _))) none) (fun k hk => by cases hk)) p2 HGR.out.own, rfl, fun _ => rfl⟩
        | some o2 =>
          rw [hp] at HUSE HRE
          clear hp
          by_cases h512 : 512 < o2.length
          · have m1 : (512 : Int) < (o2.length : Int) := by omega
            go_wp2_with (first | (go_at_call 51; go_loud ((with_reducible refine (HU.out _ _ (by simp [go_sem])).mono ?_); rintro r wq ⟨rfl, xq, rfl⟩)) | (go_at_call 54; go_loud ((with_reducible refine (HUSE.out _ (by repeat (with_reducible first | assumption | exact grA | apply grB | apply grC | apply grD | refine grE ?_ (by omega) _ | refine grF ?_ (by omega) _ _))).mono ?_); rintro r w7 ⟨v7, ok7, rfl, p1, p2, p3⟩; (obtain rfl : ok7 = true := p3.1); (obtain ⟨a7, c7, rfl⟩ := own_slice p3.2.1.1))))
            go_ret2
            have e : res = none := by rw [← HRE.out, over_no h512]; rfl
            rw [e]
            exact ⟨_, _, rfl, p1, grownBy_trans (grownBy_trans HGB.out (grownBy_of_grows (gw2.trans (by repeat (with_reducible first | assumption | exact grA | apply grB | apply grC | apply grD | refine grE ?_ (by omega) _ | refine grF ?_ (by omega) _ _))) none) (fun k hk => by cases hk)) p2 HGR.out.own, rfl, fun _ => rfl⟩
          · have m1 : ¬ (512 : Int) < (o2.length : Int) := by omega
            go_wp2_with (first | (go_at_call 51; go_loud ((with_reducible refine (HU.out _ _ (by simp [go_sem])).mono ?_); rintro r wq ⟨rfl, xq, rfl⟩)) | (go_at_call 54; go_loud ((with_reducible refine (HUSE.out _ (by repeat (with_reducible first | assumption | exact grA | apply grB | apply grC | apply grD | refine grE ?_ (by omega) _ | refine grF ?_ (by omega) _ _))).mono ?_); rintro r w7 ⟨v7, ok7, rfl, p1, p2, p3⟩; (obtain rfl : ok7 = true := p3.1); (obtain ⟨a7, c7, rfl⟩ := own_slice p3.2.1.1))))
            go_roundg (l.length - (i + 1))
            case measure => omega
            case rel =>
              have e : putP k (m + 1 + 1) o2 (l.drop (i + 1)) = res := by rw [← HRE.out, over_yes h512]; rfl
              refine ⟨i + 1, o2, a7, c7, Lib.hid ⟨by omega, by omega⟩, by go_num, rfl, Lib.hid ⟨⟨p1, grownBy_trans (grownBy_trans HGB.out (grownBy_of_grows (gw2.trans (by repeat (with_reducible first | assumption | exact grA | apply grB | apply grC | apply grD | refine grE ?_ (by omega) _ | refine grF ?_ (by omega) _ _))) none) (fun k hk => by cases hk)) p2 HGR.out.own, p3.2.1, HGR.out.trans p3.2.2 (Nat.le_trans HGB.out.size (World.grows.below (gw2.trans (by repeat (with_reducible first | assumption | exact grA | apply grB | apply grC | apply grD | refine grE ?_ (by omega) _ | refine grF ?_ (by omega) _ _)))).size), by omega⟩, e⟩⟩
      · have hu' : useT (.mk ⟨kt, s, n1, d, q1, q2⟩ ks) = false := by simpa using hu
        rw [hu'] at HU
        rw [if_neg hu] at HRE
        clear hu hu'
        have hol : o.length ≤ 600 := by omega
        have hBw : B ≤ w2.heap.size := by have := HP.out.bB; have := HGB.out.size; omega
        have hb00 := HP.out.b0
        have hg02 : w0.grows w2 := HG0.out.trans gw2
        by_cases hc : 0 < clo kt
        · rw [if_pos (show 0 < clo (Tk.mk kt s n1 d q1 q2).k from hc)] at HRE
          obtain ⟨m, hm, hmay⟩ := chk_open HCHK.out (show clo kt ≠ 0 by omega)
          subst hm
          go_upto_region 10 with ((go_at_call 51; go_loud ((with_reducible refine (HU.out _ _ (by simp [go_sem])).mono ?_); rintro r wq ⟨rfl, xq, rfl⟩)))
          have hgs1 : segOk 0 6 (some (.cells #[.int .i64 kt, .string s, .int .i64 n1, .int .i64 d, .bool q1, .bool q2, .slice aK ks.length cK] 70)) = true := rfl
          have hgs2 : segV 0 6 (some (.cells #[.int .i64 kt, .string s, .int .i64 n1, .int .i64 d, .bool q1, .bool q2, .slice aK ks.length cK] 70)) = .agg #[.int .i64 kt, .string s, .int .i64 n1, .int .i64 d, .bool q1, .bool q2] := rfl
          refine abs_rows (w := w2) (G := fun W => Code.wp _ _ _ _ W) (by repeat (with_reducible first | assumption | exact grA | apply grB | apply grC | apply grD | refine grE ?_ (by omega) _ | refine grF ?_ (by omega) _ _)) [(wr.heap.size, .cells #[.int .i64 kt, .string s, .int .i64 n1, .int .i64 d, .bool q1, .bool q2, .slice aK ks.length cK] 70)] (by simp [go_sem, *]) ?_
          intro w4 gw4 hl
          simp only [List.forall_mem_cons, List.not_mem_nil, false_implies, implies_true, and_true] at hl
          have y9 := hl
          have zy9 := row_sz' y9
          have hs4 := gw4.below.size
          refine wp_region_seq (S := rowsAs w4 [wr.heap.size]) (by kernel_rfl) (by kernel_rfl) (rowsAs.drew _ _) ?_
          show wpSeqL _ _ _ _ _ _ (World.drew w4)
          have hdd : w4.grows (World.drew w4) := World.grows.drew World.grows.refl
          repeat (refine wpSeqL_free rfl ?_; refine wpQuiet_step (fun K hK => ?_); (rw [if_pos (by simp [Region.wanted])]; refine Exists.intro ?_ ⟨fun w' hw' => ?_, ?_⟩; rotate_left; focus (have r0 := rowsAs.of hw' y9 (by simp); have s0 := row_sz' r0; first | (simp [Oper.quietAt, Oper.quietUpon, go_sem, r0, s0, hgs1, hgs2]; rfl) | (exact ⟨rfl, rfl⟩))); go_simp; refine hK _ ?_; clear hK K; refine wpQuiet_nil ?_)
          have hRA : rowsAs w4 [wr.heap.size] (World.drew w4) := rowsAs.drew _ _
          have hd0 : (World.drew w4).heap.size = w4.heap.size := rfl
          generalize World.drew w4 = wA at *
          refine wpSeqL_link rfl (fun K hK => ?_)
          go_simp
          have hgB : wA.grows (wA.alloc (.cells #[.int .i64 kt, .string s, .int .i64 n1, .int .i64 d, .bool q1, .bool q2] 65)) := World.grows.alloc World.grows.refl _
          have hnB : (wA.alloc (.cells #[.int .i64 kt, .string s, .int .i64 n1, .int .i64 d, .bool q1, .bool q2] 65)).row w4.heap.size = some (.cells #[.int .i64 kt, .string s, .int .i64 n1, .int .i64 d, .bool q1, .bool q2] 65) := by rw [← hd0]; simp [go_sem]
          have hsB : (wA.alloc (.cells #[.int .i64 kt, .string s, .int .i64 n1, .int .i64 d, .bool q1, .bool q2] 65)).heap.size = wA.heap.size + 1 := by simp
          have hRB := hRA.grow hgB (by simp; omega)
          refine hK _ _ hRB ?_
          clear hK K
          generalize wA.alloc (.cells #[.int .i64 kt, .string s, .int .i64 n1, .int .i64 d, .bool q1, .bool q2] 65) = wB at *
          have hg2B : wr.grows wB := ((gw2.trans gw4).trans hdd).trans hgB
          refine wpSeqL_appO B rfl rfl (.tmp 45) (.tmp 48) 27 rfl 65 (.agg #[.int .i64 0, .string ByteArray.empty, .int .i64 0, .int .i64 0, .bool false, .bool false]) 6 48 Tryz.underlying27 (by kernel_rfl) rfl (by omega) (by omega) _ o.length _ rfl (HOW.out.1.grows hg2B) (some ⟨w4.heap.size, 0, none⟩) 1 1 [.int .i64 kt, .string s, .int .i64 n1, .int .i64 d, .bool q1, .bool q2] rfl rfl (.inr ⟨_, rfl, fun j u hu => ?_⟩) (by simp [Value.oneCell']) (by omega) (by omega) ?_
          · exact cells_of_row (e := 65) (fr := (0, 0)) hnB j u hu
          intro v8 wG k1 k2 k3
          replace k2 : wB.grownBy wG (Value.slice a1 o.length c1).ownBlock := k2
          replace k3 : v8.ownBlock = (Value.slice a1 o.length c1).ownBlock ∨ v8.ownBlock = some wB.heap.size := k3
          have hv1 : ∀ q, (Value.slice a1 o.length c1).ownBlock = some q → q < wr.heap.size := fun q e => (HOW.out.1.lt q e).2
          have hRG := hRB.grown k2 (fun b hb => by
            have hb' : b = wr.heap.size := by simpa using hb
            exact ⟨by omega, fun e => by have := hv1 b e.symm; omega⟩)
          refine ⟨hRG, ?_⟩
          obtain ⟨a8, c8, rfl⟩ := own_slice k1
          go_simp
          repeat (refine wpSeqL_free rfl ?_; refine wpQuiet_step (fun K hK => ?_); (rw [if_pos (by simp [Region.wanted])]; refine Exists.intro ?_ ⟨fun w' hw' => ?_, ?_⟩; rotate_left; focus (have r0 := rowsAs.of hw' y9 (by simp); have s0 := row_sz' r0; first | (simp [Oper.quietAt, Oper.quietUpon, go_sem, r0, s0]; rfl) | (exact ⟨rfl, rfl⟩))); go_simp; refine hK _ ?_; clear hK K; refine wpQuiet_nil ?_)
          have hgbG : w.grownBy wG (Value.slice aO out.length cO).ownBlock := grownBy_trans (grownBy_trans HGB.out (grownBy_of_grows hg2B none) (fun k hk => by cases hk)) k2 HGR.out.own
          have hgrG : GrO w.heap.size (.slice aO out.length cO) (.slice a8 (o.length + 1) c8) := HGR.out.trans (s' := w.heap.size) (k3.elim .inl fun e => .inr ⟨_, e, Nat.le_trans HGB.out.size hg2B.below.size⟩) (Nat.le_refl _)
          have hg0G : w0.grows wG := (HG0.out.trans hg2B).grown k2 fun k hk => Nat.le_trans hb00 (HOW.out.1.lt k hk).1
          have hszG := k2.size
          have HPG : Hid (PutPre m w0 wG B mp k Sk (.slice a8 (o.length + 1) c8) (o ++ [⟨kt, s, n1, d, q1, q2⟩]) (fun g => S g ∧ g < w.heap.size) (.slice aK ks.length cK) ks) := Lib.hid ⟨hg0G, hb00, by omega, ⟨by simpa using k1, fun t ht => by
              rcases List.mem_append.1 ht with h1 | h1
              · exact HOW.out.2 t h1
              · simp at h1; subst h1; exact HTW.out⟩, HP.out.knAt hgbG, HP.out.sk, HKS.out.keep (fun g hg hl => ⟨(rowB k2 (by have := hg2B.below.size; omega) (HP.out.dlAt HGR.out g hg)).trans (hg2B.row_eq hl), hg⟩) (fun _ _ _ h => h.keep fun g hg hl => ⟨(rowB k2 (by have := hg2B.below.size; omega) (HP.out.dlAt HGR.out g hg)).trans (hg2B.row_eq hl), hg⟩), HP.out.dlAt hgrG, hmay, HND.out, by simp; omega, by omega⟩
          have HPUT := Lib.hid (HIH.out m rfl w0 wG B mp k Sk _ _ _ _ ks HPG.out)
          have hb9 : ∀ w7 : World, wG.grownBy w7 (Value.slice a8 (o.length + 1) c8).ownBlock → rowsAs w4 [wr.heap.size] w7 := fun w7 p2 => hRG.grown p2 (fun b hb => by
            have hb' : b = wr.heap.size := by simpa using hb
            have hl1 := hg2B.below.size
            refine ⟨by omega, fun e => ?_⟩
            rcases k3 with k3 | k3
            · have := hv1 b (k3.symm.trans e.symm); omega
            · rw [k3] at e; injection e with e; omega)
          have HB9 := Lib.hid hb9
          clear hb9 hRG hRB hRA
          refine wpSeqL_link rfl (fun K hK => ?_)
          go_simp
          cases hp : putP k (m + 1) (o ++ [⟨kt, s, n1, d, q1, q2⟩]) ks with
          | none =>
            rw [hp] at HPUT HRE
            (go_at_call 34; go_loud ((with_reducible refine HPUT.out.mono ?_); rintro r w7 ⟨v7, ok7, rfl, p1, p2, p3⟩; (obtain rfl : ok7 = false := p3.1); (obtain rfl : v7 = .slice none 0 0 := p3.2 rfl)))
            refine ⟨_, rfl, hK _ _ (HB9.out w7 p2) ?_⟩
            clear hK K
            repeat (refine wpSeqL_free rfl ?_; refine wpQuiet_step (fun K hK => ?_); (rw [if_pos (by simp [Region.wanted])]; refine Exists.intro ?_ ⟨fun w' hw' => ?_, ?_⟩; rotate_left; focus (have r0 := rowsAs.of hw' y9 (by simp); have s0 := row_sz' r0; first | (simp [Oper.quietAt, Oper.quietUpon, go_sem, r0, s0]; rfl) | (exact ⟨rfl, rfl⟩))); go_simp; refine hK _ ?_; clear hK K; refine wpQuiet_nil ?_)
            refine wpSeqL_end ?_
            have hB7 : B ≤ w7.heap.size := by have := p2.size; omega
            go_wp2_with ((at_builtin; refine wpList_app w0 (B) rfl (.tmp 55) (.tmp 58) _ rfl 65 (.agg #[.int .i64 0, .string ByteArray.empty, .int .i64 0, .int .i64 0, .bool false, .bool false]) 6 48 Tryz.underlying27 (by kernel_rfl) rfl (by omega) (by omega) _ 0 _ rfl ((World.ownsRow_nil _ _ _ _)) _ 1 _ [.int .i64 (clo kt), .string ⟨#[]⟩, .int .i64 0, .int .i64 0, .bool false, .bool false] rfl rfl (cells_of_row (e := 65) (fr := (0, 0)) (by simp [go_sem])) (by simp [Value.oneCell']) (by omega) (by repeat (with_reducible first | assumption | exact grA | apply grB | apply grC | apply grD | refine grE ?_ (by omega) _ | refine grF ?_ (by omega) _ _)) (by omega) (by first | omega | (simp <;> omega)) ?_; intro v' w' hg' HO' HR' HG' HA'))
            go_ret2
            have e : res = none := by rw [← HRE.out]; rfl
            rw [e]
            exact ⟨_, _, rfl, hg', grownBy_trans (grownBy_trans (grownBy_trans hgbG p2 hgrG.own) (grownBy_of_grows (by repeat (with_reducible first | assumption | exact grA | apply grB | apply grC | apply grD | refine grE ?_ (by omega) _ | refine grF ?_ (by omega) _ _)) none) (fun k hk => by cases hk)) HG'.out (fun k (hk : none = some k) => by cases hk), rfl, fun _ => rfl⟩
          | some o2 =>
            rw [hp] at HPUT HRE
            have HRE2 : Hid (nextP k (m + 1) (over512 (some (o2 ++ [shutTk kt]))) (l.drop (i + 1)) = res) := HRE
            (go_at_call 34; go_loud ((with_reducible refine HPUT.out.mono ?_); rintro r w7 ⟨v7, ok7, rfl, p1, p2, p3⟩; (obtain rfl : ok7 = true := p3.1); (obtain ⟨a7, c7, rfl⟩ := own_slice p3.2.1.1)))
            refine ⟨_, rfl, hK _ _ (HB9.out w7 p2) ?_⟩
            clear hK K
            repeat (refine wpSeqL_free rfl ?_; refine wpQuiet_step (fun K hK => ?_); (rw [if_pos (by simp [Region.wanted])]; refine Exists.intro ?_ ⟨fun w' hw' => ?_, ?_⟩; rotate_left; focus (have r0 := rowsAs.of hw' y9 (by simp); have s0 := row_sz' r0; first | (simp [Oper.quietAt, Oper.quietUpon, go_sem, r0, s0]; rfl) | (exact ⟨rfl, rfl⟩))); go_simp; refine hK _ ?_; clear hK K; refine wpQuiet_nil ?_)
            refine wpSeqL_end ?_
            have hB7 : B ≤ w7.heap.size := by have := p2.size; omega
            have ho2 : o2.length ≤ 601 := putP_bound hp (by simp; omega)
            have hln3 : (o2 ++ [shutTk kt]).length = o2.length + 1 := by simp
            by_cases h512 : 512 < o2.length + 1
            · have m1 : (512 : Int) < (o2.length : Int) + 1 := by omega
              go_wp2_with ((at_builtin; refine wpList_app w0 (B) rfl (.tmp 55) (.tmp 58) _ rfl 65 (.agg #[.int .i64 0, .string ByteArray.empty, .int .i64 0, .int .i64 0, .bool false, .bool false]) 6 48 Tryz.underlying27 (by kernel_rfl) rfl (by omega) (by omega) _ o2.length _ rfl ((p3.2.1.1.grows (by repeat (with_reducible first | assumption | exact grA | apply grB | apply grC | apply grD | refine grE ?_ (by omega) _ | refine grF ?_ (by omega) _ _)))) _ 1 _ [.int .i64 (clo kt), .string ⟨#[]⟩, .int .i64 0, .int .i64 0, .bool false, .bool false] rfl rfl (cells_of_row (e := 65) (fr := (0, 0)) (by simp [go_sem])) (by simp [Value.oneCell']) (by omega) (by repeat (with_reducible first | assumption | exact grA | apply grB | apply grC | apply grD | refine grE ?_ (by omega) _ | refine grF ?_ (by omega) _ _)) (by omega) (by first | omega | (simp <;> omega)) ?_; intro v' w' hg' HO' HR' HG' HA'); (obtain ⟨a9, c9, rfl⟩ := own_slice HO'.out))
              go_ret2
              have e : res = none := by rw [← HRE2.out, over_no (by rw [hln3]; exact h512)]; rfl
              rw [e]
              exact ⟨_, _, rfl, hg', grownBy_trans (grownBy_trans (grownBy_trans hgbG p2 hgrG.own) (grownBy_of_grows (by repeat (with_reducible first | assumption | exact grA | apply grB | apply grC | apply grD | refine grE ?_ (by omega) _ | refine grF ?_ (by omega) _ _)) none) (fun k hk => by cases hk)) HG'.out (hgrG.trans p3.2.2 (Nat.le_trans hgbG.size (Nat.le_refl _))).own, rfl, fun _ => rfl⟩
            · have m1 : ¬ (512 : Int) < (o2.length : Int) + 1 := by omega
              go_wp2_with ((at_builtin; refine wpList_app w0 (B) rfl (.tmp 55) (.tmp 58) _ rfl 65 (.agg #[.int .i64 0, .string ByteArray.empty, .int .i64 0, .int .i64 0, .bool false, .bool false]) 6 48 Tryz.underlying27 (by kernel_rfl) rfl (by omega) (by omega) _ o2.length _ rfl ((p3.2.1.1.grows (by repeat (with_reducible first | assumption | exact grA | apply grB | apply grC | apply grD | refine grE ?_ (by omega) _ | refine grF ?_ (by omega) _ _)))) _ 1 _ [.int .i64 (clo kt), .string ⟨#[]⟩, .int .i64 0, .int .i64 0, .bool false, .bool false] rfl rfl (cells_of_row (e := 65) (fr := (0, 0)) (by simp [go_sem])) (by simp [Value.oneCell']) (by omega) (by repeat (with_reducible first | assumption | exact grA | apply grB | apply grC | apply grD | refine grE ?_ (by omega) _ | refine grF ?_ (by omega) _ _)) (by omega) (by first | omega | (simp <;> omega)) ?_; intro v' w' hg' HO' HR' HG' HA'); (obtain ⟨a9, c9, rfl⟩ := own_slice HO'.out))
              go_roundg (l.length - (i + 1))
              case measure => omega
              case rel =>
                have e : putP k (m + 1 + 1) (o2 ++ [shutTk kt]) (l.drop (i + 1)) = res := by rw [← HRE2.out, over_yes (by rw [hln3]; exact h512)]; rfl
                have hgr7 := hgrG.trans p3.2.2 (Nat.le_trans hgbG.size (Nat.le_refl _))
                refine ⟨i + 1, o2 ++ [shutTk kt], a9, c9, Lib.hid ⟨by omega, by omega⟩, by go_num, by rw [hln3], Lib.hid ⟨⟨hg', grownBy_trans (grownBy_trans (grownBy_trans hgbG p2 hgrG.own) (grownBy_of_grows (by repeat (with_reducible first | assumption | exact grA | apply grB | apply grC | apply grD | refine grE ?_ (by omega) _ | refine grF ?_ (by omega) _ _)) none) (fun k hk => by cases hk)) HG'.out hgr7.own, ⟨by rw [hln3, List.flatMap_append]; exact HO'.out, fun t ht => ?_⟩, hgr7.trans (by rw [hln3]; exact HA'.out.elim .inl fun e => .inr ⟨_, e, Nat.le_refl _⟩) (Nat.le_trans hgbG.size (Nat.le_trans p2.size (World.grows.below (by repeat (with_reducible first | assumption | exact grA | apply grB | apply grC | apply grD | refine grE ?_ (by omega) _ | refine grF ?_ (by omega) _ _))).size)), by omega⟩, e⟩⟩
                rcases List.mem_append.1 ht with h1 | h1
                · exact p3.2.1.2 t h1
                · simp at h1; subst h1
                  exact shutTk_wf kt
        · rw [if_neg (show ¬ 0 < clo (Tk.mk kt s n1 d q1 q2).k from hc)] at HRE
          have hc0 : clo kt = 0 := by rcases clo_cases kt with h | h <;> omega
          clear hc
          by_cases h512 : 512 < o.length + 1
          · have m1 : (512 : Int) < (o.length : Int) + 1 := by omega
            go_wp2_with (first | (go_at_call 51; go_loud ((with_reducible refine (HU.out _ _ (by simp [go_sem])).mono ?_); rintro r wq ⟨rfl, xq, rfl⟩)) | ((at_builtin; refine wpList_app w0 (B) rfl (.tmp 22) (.tmp 25) _ rfl 65 (.agg #[.int .i64 0, .string ByteArray.empty, .int .i64 0, .int .i64 0, .bool false, .bool false]) 6 48 Tryz.underlying27 (by kernel_rfl) rfl (by omega) (by omega) _ o.length _ rfl ((HOW.out.1.grows (gw2.trans (by repeat (with_reducible first | assumption | exact grA | apply grB | apply grC | apply grD | refine grE ?_ (by omega) _ | refine grF ?_ (by omega) _ _))))) _ 1 _ [.int .i64 kt, .string s, .int .i64 n1, .int .i64 d, .bool q1, .bool q2] rfl rfl (cells_of_row (e := 65) (fr := (0, 0)) (by simp [go_sem])) (by simp [Value.oneCell']) (by omega) (by repeat (with_reducible first | assumption | exact grA | apply grB | apply grC | apply grD | refine grE ?_ (by omega) _ | refine grF ?_ (by omega) _ _)) (by omega) (by first | omega | (simp <;> omega)) ?_; intro v' w' hg' HO' HR' HG' HA'); (obtain ⟨a7, c7, rfl⟩ := own_slice HO'.out)))
            go_ret2
            have e : res = none := by rw [← HRE.out, over_no (by simp; omega)]; rfl
            rw [e]
            exact ⟨_, _, rfl, hg', grownBy_trans (grownBy_trans HGB.out (grownBy_of_grows (gw2.trans (by repeat (with_reducible first | assumption | exact grA | apply grB | apply grC | apply grD | refine grE ?_ (by omega) _ | refine grF ?_ (by omega) _ _))) none) (fun k hk => by cases hk)) HG'.out HGR.out.own, rfl, fun _ => rfl⟩
          · have m1 : ¬ (512 : Int) < (o.length : Int) + 1 := by omega
            go_wp2_with (first | (go_at_call 51; go_loud ((with_reducible refine (HU.out _ _ (by simp [go_sem])).mono ?_); rintro r wq ⟨rfl, xq, rfl⟩)) | ((at_builtin; refine wpList_app w0 (B) rfl (.tmp 22) (.tmp 25) _ rfl 65 (.agg #[.int .i64 0, .string ByteArray.empty, .int .i64 0, .int .i64 0, .bool false, .bool false]) 6 48 Tryz.underlying27 (by kernel_rfl) rfl (by omega) (by omega) _ o.length _ rfl ((HOW.out.1.grows (gw2.trans (by repeat (with_reducible first | assumption | exact grA | apply grB | apply grC | apply grD | refine grE ?_ (by omega) _ | refine grF ?_ (by omega) _ _))))) _ 1 _ [.int .i64 kt, .string s, .int .i64 n1, .int .i64 d, .bool q1, .bool q2] rfl rfl (cells_of_row (e := 65) (fr := (0, 0)) (by simp [go_sem])) (by simp [Value.oneCell']) (by omega) (by repeat (with_reducible first | assumption | exact grA | apply grB | apply grC | apply grD | refine grE ?_ (by omega) _ | refine grF ?_ (by omega) _ _)) (by omega) (by first | omega | (simp <;> omega)) ?_; intro v' w' hg' HO' HR' HG' HA'); (obtain ⟨a7, c7, rfl⟩ := own_slice HO'.out)))
            go_roundg (l.length - (i + 1))
            case measure => omega
            case rel =>
              have e : putP k (n + 1) (o ++ [⟨kt, s, n1, d, q1, q2⟩]) (l.drop (i + 1)) = res := by rw [← HRE.out, over_yes (by simp; omega)]; rfl
              have hln2 : (o ++ [(⟨kt, s, n1, d, q1, q2⟩ : Tk)]).length = o.length + 1 := by simp
              refine ⟨i + 1, o ++ [⟨kt, s, n1, d, q1, q2⟩], a7, c7, Lib.hid ⟨by omega, by omega⟩, by go_num, by rw [hln2], Lib.hid ⟨⟨hg', grownBy_trans (grownBy_trans HGB.out (grownBy_of_grows (gw2.trans (by repeat (with_reducible first | assumption | exact grA | apply grB | apply grC | apply grD | refine grE ?_ (by omega) _ | refine grF ?_ (by omega) _ _))) none) (fun k hk => by cases hk)) HG'.out HGR.out.own, ⟨by simpa using HO'.out, fun t ht => ?_⟩, HGR.out.trans (by rw [hln2]; exact HA'.out.elim .inl fun e => .inr ⟨_, e, Nat.le_refl _⟩) (Nat.le_trans HGB.out.size (World.grows.below (gw2.trans (by repeat (with_reducible first | assumption | exact grA | apply grB | apply grC | apply grD | refine grE ?_ (by omega) _ | refine grF ?_ (by omega) _ _)))).size), by omega⟩, e⟩⟩
              rcases List.mem_append.1 ht with h1 | h1
              · exact HOW.out.2 t h1
              · simp at h1; subst h1; exact HTW.out
    · have iI : ¬ (i : Int) < (l.length : Int) := by omega
      obtain rfl : i = l.length := by omega
      go_wp2_with fail
      go_ret2
      have h2 := HS.out.2
      rw [List.drop_length, putP_nil] at h2
      rw [← h2]
      exact ⟨_, _, rfl, HS.out.1.g0, HS.out.1.gb, rfl, HS.out.1.own, HS.out.1.gr⟩
/-- put behind tokens -/
theorem kput_any : ∀ n : Nat, PutC n
  | 0 => kput_step 0 fun m hm => by omega
  | n + 1 => kput_step (n + 1) fun m hm => by
      obtain rfl : n = m := by omega
      exact kput_any n
end Go.Proofs.YthcaphoejplecaaGreatDoor

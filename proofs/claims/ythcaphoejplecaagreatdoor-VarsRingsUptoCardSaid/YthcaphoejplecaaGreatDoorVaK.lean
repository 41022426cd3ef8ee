/- WALK over jalousieref21: values are put behind tokens. No condition but bounds. -/
import Derived.Test.YthcaphoejplecaaGreatDoorVa2
set_option linter.unusedSimpArgs false
set_option linter.unusedVariables false
namespace Go
open Go.RowKit
/-- what comes behind -/
def nextR (k : Known) (n : Nat) (r : Option (List Tk)) (rest : List Vt) : Option (List Tk) := match r with | none => none | some o => putR k (n + 1) o rest
theorem putR_next (k : Known) (n : Nat) (out : List Tk) (v : Vt) (l : List Vt) : putR k (n + 1) out (v :: l) = nextR k n (stepR k n out v) l := by
  rw [putR_cons]
  cases stepR k n out v with
  | none => rfl
  | some o => rfl
def openR1 (r : Option (List Tk)) (kt : Int) : Option (List Tk) := match r with | none => none | some o => moreT o [shutTk kt]
def openR (k : Known) (n : Nat) (r : Option (List Tk)) (ks : List Vt) (kt : Int) : Option (List Tk) := match r with | none => none | some o => openR1 (putR k n o ks) kt
def useR (k : Known) (n : Nat) (out : List Tk) (o : Option (ByteArray × List Vt)) : Option (List Tk) := match o with
  | none => none
  | some (name, rest) => match k name with
    | some t => moreT out t
    | none => if rest = [] then none else putR k n out (trimT rest.tail)
theorem stepR_eq (k : Known) (n : Nat) (out : List Tk) (t : Tk) (ks : List Vt) : stepR k n out (.mk t ks) = if useT (.mk t ks) = true then useR k n out (namedT (.mk t ks)) else if clo t.k ≠ 0 then openR k n (moreT out [t]) ks t.k else moreT out [t] := by
  unfold stepR openR openR1 useR
  rfl
theorem moreT_len {out l o : List Tk} (h : moreT out l = some o) : o = out ++ l ∧ o.length ≤ 512 := by
  unfold moreT at h
  split at h
  · cases h
  · cases h; exact ⟨rfl, by simp; omega⟩
theorem putR_len {k : Known} {n : Nat} {out o : List Tk} {l : List Vt} (h : putR k n out l = some o) (hl : out.length ≤ 512) : o.length ≤ 512 := by
  obtain ⟨h1, h2⟩ := putPR_same k n l out hl
  exact h2 o (h1.trans h)
end Go
namespace Go.Proofs.YthcaphoejplecaaGreatDoor
open Go.RowKit
/-- what put is given -/
structure PutPreR (n : Nat) (w0 w : World) (B : Nat) (mp : Value) (cs : List Cu) (Sk : Nat → Prop) (vO : Value) (out : List Tk) (S : Nat → Prop) (vl : Value) (l : List Vt) : Prop where
  g0 : w0.grows w
  b0 : w0.heap.size ≤ B
  bB : B ≤ w.heap.size
  own : TkO w B vO out
  kn : CusAt w Sk mp cs
  kl : cs.length ≤ 4194304
  sk : ∀ g, Sk g → g < B
  vl : VsAt w S vl l
  dl : ∀ g, S g → vO.ownBlock ≠ some g
  may : mayV n l = true
  nod : nodesL l ≤ 4194304
  len : out.length ≤ 512
  n64 : n ≤ 64
/-- tokens so far, in the world as it stands -/
structure FSt (w0 w : World) (B : Nat) (vO : Value) (W : World) (v1 : Value) (o : List Tk) : Prop where
  g0 : w0.grows W
  gb : w.grownBy W vO.ownBlock
  own : TkO W B v1 o
  gr : GrO w.heap.size vO v1
theorem FSt.grows {w0 w W W' : World} {B : Nat} {vO v1 : Value} {o : List Tk} (h : FSt w0 w B vO W v1 o) (hg : W.grows W') : FSt w0 w B vO W' v1 o :=
  ⟨h.g0.trans hg, grownBy_trans h.gb (grownBy_of_grows hg none) (fun k hk => by cases hk), ⟨h.own.1.grows hg, h.own.2⟩, h.gr⟩
theorem FSt.next {w0 w W W' : World} {B : Nat} {vO v1 v2 : Value} {o o2 : List Tk} (h : FSt w0 w B vO W v1 o) (p1 : w0.grows W') (p2 : W.grownBy W' v1.ownBlock) (p3 : TkO W' B v2 o2) (p4 : GrO W.heap.size v1 v2) : FSt w0 w B vO W' v2 o2 :=
  ⟨p1, grownBy_trans h.gb p2 h.gr.own, p3, h.gr.trans p4 h.gb.size⟩
theorem FSt.gone {w0 w W W' : World} {B : Nat} {vO v1 : Value} {o : List Tk} (h : FSt w0 w B vO W v1 o) (p2 : W.grownBy W' v1.ownBlock) : w.grownBy W' vO.ownBlock := grownBy_trans h.gb p2 h.gr.own
section
variable {n : Nat} {w0 w W : World} {B : Nat} {mp : Value} {cs : List Cu} {Sk : Nat → Prop} {vO v1 : Value} {out : List Tk} {S : Nat → Prop} {vl : Value} {l : List Vt}
theorem PutPreR.vlAt (h : PutPreR n w0 w B mp cs Sk vO out S vl l) (gb : w.grownBy W vO.ownBlock) : VsAt W (fun g => S g ∧ g < w.heap.size) vl l :=
  h.vl.keep fun g hS hl => ⟨rowB gb hl (h.dl g hS), hS, hl⟩
theorem PutPreR.knAt (h : PutPreR n w0 w B mp cs Sk vO out S vl l) (gb : w.grownBy W vO.ownBlock) : CusAt W Sk mp cs :=
  h.kn.keep fun g hS hl => ⟨rowB gb hl (fun e => by have := (h.own.1.lt g e).1; have := h.sk g hS; omega), hS⟩
theorem PutPreR.dlAt (h : PutPreR n w0 w B mp cs Sk vO out S vl l) (gr : GrO w.heap.size vO v1) : ∀ g, S g ∧ g < w.heap.size → v1.ownBlock ≠ some g := fun g hg e => by
  rcases gr with e1 | ⟨q, e1, e2⟩
  · exact h.dl g hg.1 (e1.symm.trans e)
  · rw [e1] at e; injection e with e; omega
end
theorem tk1_at {W : World} {b : Nat} {t : Tk} (h : W.row b = some (.cells #[.int .i64 t.k, .string t.s, .int .i64 t.n, .int .i64 t.d, .bool t.w, .bool t.i] 65)) (ht : t.Wf) : SlAt W (fun _ => True) 6 TkR (.slice (some ⟨b, 0, none⟩) 1 1) [t] := by
  refine ⟨_, 1, rfl, Nat.le_refl _, by omega, .inr ⟨b, 0, rfl, trivial, fun i x hx => ?_⟩⟩
  cases i with
  | succ i => simp at hx
  | zero =>
    simp at hx; subst hx
    exact ⟨t.cs, rfl, eltAt_of_range (by simp) fun j u hj => by
      rw [World.cell?_row, h, Nat.zero_mul, Nat.add_zero, Nat.zero_add]
      show (#[Value.int .i64 t.k, .string t.s, .int .i64 t.n, .int .i64 t.d, .bool t.w, .bool t.i] : Array Value)[j]? = some u
      simpa using hj, rfl, ht⟩
theorem shut1_at {W : World} {b : Nat} {kt : Int} (h : W.row b = some (.cells #[.int .i64 (clo kt), .string ⟨#[]⟩, .int .i64 0, .int .i64 0, .bool false, .bool false] 65)) : SlAt W (fun _ => True) 6 TkR (.slice (some ⟨b, 0, none⟩) 1 1) [shutTk kt] :=
  tk1_at (t := shutTk kt) (by rw [h]; rfl) (shutTk_wf kt)
abbrev PutCR (n : Nat) : Prop := ∀ (w0 w : World) (B : Nat) (mp : Value) (cs : List Cu) (Sk : Nat → Prop) (vO : Value) (out : List Tk) (S : Nat → Prop) (vl : Value) (l : List Vt), PutPreR n w0 w B mp cs Sk vO out S vl l → Calls Tryz.prog 39 #[vl, mp, vO] w (PutPost w0 w B vO true (putR (findCu cs) (n + 1) out l))
set_option maxRecDepth 100000 in
set_option maxHeartbeats 8000000 in
theorem fput_step (n : Nat) (IH : ∀ m, n = m + 1 → PutCR m) : PutCR n := by
  intro w0 w B mp cus Sk vO out S vl l h
  obtain ⟨aL, cL, rfl, hcap, hcap2⟩ := SlAt.len h.vl
  obtain ⟨aC, cC, rfl, hcapC, hcapC2⟩ := SlAt.len h.kn
  obtain ⟨aO, cO, rfl⟩ := own_slice h.own.1
  have HP := Lib.hid h
  have HIH := Lib.hid IH
  clear IH h
  obtain ⟨res, hres⟩ : ∃ res, putR (findCu cus) (n + 1) out l = res := ⟨_, rfl⟩
  have HRES := Lib.hid hres
  rw [hres]
  clear hres
  go_enter Tryz.func39, Tryz.ntmps39
  go_wp2_with fail
  go_loopg [2, 8, 19] l.length (fun gn v2 v8 v19 wj => ∃ (i : Nat) (o : List Tk) (a1 : Option Addr) (c1 : Nat), Hid (gn + i = l.length ∧ i ≤ l.length) ∧ v19 = .int .i64 i ∧ v2 = .slice a1 o.length c1 ∧ v8 = .bool true ∧ Hid (FSt w0 w B (.slice aO out.length cO) wj (.slice a1 o.length c1) o ∧ o.length ≤ 512 ∧ putR (findCu cus) (n + 1) o (l.drop i) = res))
  case atStart => exact ⟨0, out, aO, cO, Lib.hid ⟨by simp, Nat.zero_le _⟩, by go_num, rfl, rfl, Lib.hid ⟨⟨HP.out.g0, grownBy_of_grows World.grows.refl _, HP.out.own, .inl rfl⟩, HP.out.len, HRES.out⟩⟩
  case round =>
    obtain ⟨i, o, a1, c1, HQ, rfl, rfl, rfl, HS⟩ := hrel
    obtain ⟨j1, j2⟩ := HQ.out
    by_cases hlt : i < l.length
    · have iI : (i : Int) < (l.length : Int) := by omega
      have hgt : l[i]? = some l[i] := List.getElem?_eq_getElem hlt
      have hmem := List.getElem_mem hlt
      have hdrop : l.drop i = l[i] :: l.drop (i + 1) := List.drop_eq_getElem_cons hlt
      obtain ⟨g, off, cs, rfl, -, -, k1, hv⟩ := (HP.out.vlAt HS.out.1.gb).elt hgt
      have hchk : chkV n l[i] = true := by have := HP.out.may; rw [mayV_all, List.all_eq_true] at this; exact this _ hmem
      have hnod := Nat.le_trans (nodesL_mem hmem) HP.out.nod
      have HRE := Lib.hid (show nextR (findCu cus) n (stepR (findCu cus) n o l[i]) (l.drop (i + 1)) = res by rw [← HS.out.2.2, hdrop, putR_next])
      generalize l[i] = x at *
      obtain ⟨t, ks⟩ := x
      obtain ⟨twf, vk, rfl, hks⟩ := VOk_open hv
      obtain ⟨aK, cK, rfl, -, -⟩ := hks.len
      rw [stepR_eq] at HRE
      have HKS := Lib.hid hks
      have HTW := Lib.hid twf
      have HND := Lib.hid (show nodesL ks ≤ 4194304 by simp [Vt.nodes] at hnod; omega)
      have HCHK := Lib.hid hchk
      have HU := Lib.hid (fun (W : World) => fuse_any t twf aK ks.length cK ks W)
      have HUSE := Lib.hid (fun (W : World) (hg : wr.grows W) => fUse_any (t := t) (w := W) (VsAt.grows hks hg))
      have HF := Lib.hid (fun (nm : ByteArray) (W : World) (hg : wr.grows W) => ffind_any (w := W) (nm := nm) ((HP.out.knAt HS.out.1.gb).grows hg) HP.out.kl)
      have HST := Lib.hid HS.out.1
      have hln := HS.out.2.1
      have hn64 := HP.out.n64
      have HMORE : Hid (∀ (W : World) (S2 : Nat → Prop) (u : Value) (ts : List Tk), wr.grows W → SlAt W S2 6 TkR u ts → ts.length ≤ 4194304 → Calls Tryz.prog 59 #[.slice a1 o.length c1, u] W (PutPost w0 W B (.slice a1 o.length c1) true (moreT o ts))) := Lib.hid fun W S2 u ts hg hts htl => by
        have h2 := HST.out.grows hg
        exact fmore_any h2.g0 HP.out.b0 (Nat.le_trans HP.out.bB h2.gb.size) h2.own (by omega) hts htl
      have HPUT : Hid (∀ (m : Nat) (W : World) (S2 : Nat → Prop) (u : Value) (l2 : List Vt), n = m + 1 → wr.grows W → VsAt W S2 u l2 → (∀ g, S2 g → (S g ∧ g < w.heap.size) ∨ wr.heap.size ≤ g) → mayV m l2 = true → nodesL l2 ≤ 4194304 → Calls Tryz.prog 39 #[u, .slice aC cus.length cC, .slice a1 o.length c1] W (PutPost w0 W B (.slice a1 o.length c1) true (putR (findCu cus) (m + 1) o l2))) := Lib.hid fun m W S2 u l2 hm hg hu hS2 hmay hnod => by
        have h2 := HST.out.grows hg
        refine HIH.out m hm w0 W B _ cus Sk _ o S2 u l2 ⟨h2.g0, HP.out.b0, Nat.le_trans HP.out.bB h2.gb.size, h2.own, HP.out.knAt h2.gb, HP.out.kl, HP.out.sk, hu, fun g hg2 e => ?_, hmay, hnod, by omega, by omega⟩
        rcases hS2 g hg2 with h3 | h3
        · exact HP.out.dlAt HST.out.gr g h3 e
        · have := (HST.out.own.1.lt g e).2; omega
      obtain ⟨kt, s, n1, d, q1, q2⟩ := t
      have z3 := lt_sz k1.lt
      obtain ⟨u1, u2⟩ := k1
      replace u1 : segOk (off + i * 7) 7 (wr.row g) = true := u1
      replace u2 : segV (off + i * 7) 7 (wr.row g) = .agg #[.int .i64 kt, .string s, .int .i64 n1, .int .i64 d, .bool q1, .bool q2, .slice aK ks.length cK] := u2
      have ii0 : (0 : Int) ≤ (i : Int) := by omega
      clear hgt hmem hdrop hv hks twf hchk hnod
      by_cases hu : useT (.mk ⟨kt, s, n1, d, q1, q2⟩ ks) = true
      · rw [hu] at HU
        rw [if_pos hu] at HRE
        have hkt : kt = 2 := by
          rw [useT_eq] at hu
          simp only [Bool.and_eq_true, decide_eq_true_iff] at hu
          exact hu.1
        obtain ⟨m, hm, hmay⟩ := chk_open HCHK.out (show clo kt ≠ 0 by rw [hkt]; decide)
        clear hu hkt
        cases hN : namedT (.mk ⟨kt, s, n1, d, q1, q2⟩ ks) with
        | none =>
          rw [hN] at HUSE HRE
          clear hN
          go_wp2_with (first | (go_at_call 45; (with_reducible refine (HU.out _).mono ?_); rintro e w1 ⟨rfl, x1, rfl⟩) | (go_at_call 46; go_loud ((with_reducible refine (HUSE.out _ (by repeat (with_reducible first | assumption | exact grA | apply grB | apply grC | apply grD | refine grE ?_ (by omega) _ | refine grF ?_ (by omega) _ _))).mono ?_); rintro r w5 ⟨hg5, rfl⟩)))
          go_ret2
          have e : res = none := by rw [← HRE.out]; rfl
          rw [e]
          exact ⟨_, _, rfl, HST.out.g0.trans (World.grows.trans (by repeat (with_reducible first | assumption | exact grA | apply grB | apply grC | apply grD | refine grE ?_ (by omega) _ | refine grF ?_ (by omega) _ _)) hg5), HST.out.gone (grownBy_of_grows (World.grows.trans (by repeat (with_reducible first | assumption | exact grA | apply grB | apply grC | apply grD | refine grE ?_ (by omega) _ | refine grF ?_ (by omega) _ _)) hg5) _), rfl, fun _ => rfl⟩
        | some y =>
          obtain ⟨nm, rest⟩ := y
          rw [hN] at HUSE HRE
          have HNS := Lib.hid (fun (x : Vt) (r : List Vt) (hr : rest = x :: r) => named_sub (v := .mk ⟨kt, s, n1, d, q1, q2⟩ ks) (n := m) (nm := nm) (by rw [hN, hr]) HND.out hmay)
          clear hN
          cases rest with
          | nil =>
            cases hk : findCu cus nm with
            | none =>
              have HFN := Lib.hid (HF.out nm)
              rw [hk] at HFN
              have HRE : Hid (nextR (findCu cus) n none (l.drop (i + 1)) = res) := Lib.hid (by rw [← HRE.out]; unfold useR; simp only; rw [hk]; rfl)
              clear hk
              go_wp2_with (first | (go_at_call 45; (with_reducible refine (HU.out _).mono ?_); rintro e w1 ⟨rfl, x1, rfl⟩) | (go_at_call 46; go_loud ((with_reducible refine (HUSE.out _ (by repeat (with_reducible first | assumption | exact grA | apply grB | apply grC | apply grD | refine grE ?_ (by omega) _ | refine grF ?_ (by omega) _ _))).mono ?_); rintro r w5 ⟨hg5, rfl⟩; (have hgw5 := World.grows.trans (show World.grows wr _ from (by repeat (with_reducible first | assumption | exact grA | apply grB | apply grC | apply grD | refine grE ?_ (by omega) _ | refine grF ?_ (by omega) _ _))) hg5))) | (go_at_call 58; go_loud ((with_reducible refine (HFN.out _ hgw5).mono ?_); rintro r w6 ⟨hg6, rfl⟩; (have hgw6 := hgw5.trans hg6))))
              go_ret2
              have e : res = none := by rw [← HRE.out]; rfl
              rw [e]
              exact ⟨_, _, rfl, HST.out.g0.trans hgw6, HST.out.gone (grownBy_of_grows hgw6 _), rfl, fun _ => rfl⟩
            | some ts =>
              have HFN := Lib.hid (HF.out nm)
              rw [hk] at HFN
              have HMO := Lib.hid (fun (W : World) (S2 : Nat → Prop) (u : Value) => HMORE.out W S2 u ts)
              cases hm2 : moreT o ts with
              | none =>
                have HRE : Hid (nextR (findCu cus) n none (l.drop (i + 1)) = res) := Lib.hid (by rw [← HRE.out]; unfold useR; simp only; rw [hk, ← hm2])
                rw [hm2] at HMO
                clear hk hm2
                go_wp2_with (first | (go_at_call 45; (with_reducible refine (HU.out _).mono ?_); rintro e w1 ⟨rfl, x1, rfl⟩) | (go_at_call 46; go_loud ((with_reducible refine (HUSE.out _ (by repeat (with_reducible first | assumption | exact grA | apply grB | apply grC | apply grD | refine grE ?_ (by omega) _ | refine grF ?_ (by omega) _ _))).mono ?_); rintro r w5 ⟨hg5, rfl⟩; (have hgw5 := World.grows.trans (show World.grows wr _ from (by repeat (with_reducible first | assumption | exact grA | apply grB | apply grC | apply grD | refine grE ?_ (by omega) _ | refine grF ?_ (by omega) _ _))) hg5))) | (go_at_call 58; go_loud ((with_reducible refine (HFN.out _ hgw5).mono ?_); rintro r w6 ⟨hg6, v6, rfl, hts6, htl6⟩; (have hgw6 := hgw5.trans hg6))) | (go_at_call 59; go_loud ((with_reducible refine (HMO.out _ _ v6 hgw6 hts6 htl6).mono ?_); rintro r w7 ⟨v7, ok7, rfl, p1, p2, p3⟩; (obtain rfl : ok7 = false := p3.1))))
                go_ret2
                have e : res = none := by rw [← HRE.out]; rfl
                rw [e]
                exact ⟨_, _, rfl, p1, (HST.out.grows hgw6).gone p2, rfl, fun _ => rfl⟩

              | some o2 =>
                have HRE : Hid (nextR (findCu cus) n (some o2) (l.drop (i + 1)) = res) := Lib.hid (by rw [← HRE.out]; unfold useR; simp only; rw [hk, ← hm2])
                have hol := (moreT_len hm2).2
                rw [hm2] at HMO
                clear hk hm2
                go_wp2_with (first | (go_at_call 45; (with_reducible refine (HU.out _).mono ?_); rintro e w1 ⟨rfl, x1, rfl⟩) | (go_at_call 46; go_loud ((with_reducible refine (HUSE.out _ (by repeat (with_reducible first | assumption | exact grA | apply grB | apply grC | apply grD | refine grE ?_ (by omega) _ | refine grF ?_ (by omega) _ _))).mono ?_); rintro r w5 ⟨hg5, rfl⟩; (have hgw5 := World.grows.trans (show World.grows wr _ from (by repeat (with_reducible first | assumption | exact grA | apply grB | apply grC | apply grD | refine grE ?_ (by omega) _ | refine grF ?_ (by omega) _ _))) hg5))) | (go_at_call 58; go_loud ((with_reducible refine (HFN.out _ hgw5).mono ?_); rintro r w6 ⟨hg6, v6, rfl, hts6, htl6⟩; (have hgw6 := hgw5.trans hg6))) | (go_at_call 59; go_loud ((with_reducible refine (HMO.out _ _ v6 hgw6 hts6 htl6).mono ?_); rintro r w7 ⟨v7, ok7, rfl, p1, p2, p3⟩; (obtain rfl : ok7 = true := p3.1); (obtain ⟨a7, c7, rfl⟩ := own_slice p3.2.1.1))))
                go_roundg (l.length - (i + 1))
                case measure => omega
                case rel => exact ⟨i + 1, o2, a7, c7, Lib.hid ⟨by omega, by omega⟩, by go_num, rfl, rfl, Lib.hid ⟨(HST.out.grows hgw6).next p1 p2 p3.2.1 p3.2.2, by omega, HRE.out⟩⟩

          | cons x r =>
            obtain ⟨ns1, ns2, ns3⟩ := HNS.out x r rfl
            cases hk : findCu cus nm with
            | none =>
              have HFN := Lib.hid (HF.out nm)
              rw [hk] at HFN
              have HPU := Lib.hid (fun (W : World) (u : Value) (hg : wr.grows W) (hu : VsAt W (fun g => S g ∧ g < w.heap.size) u (trimT r)) => HPUT.out m W _ u (trimT r) hm hg hu (fun g hg => .inl hg) ns3 ns1)
              cases hp : putR (findCu cus) (m + 1) o (trimT r) with
              | none =>
                have HRE : Hid (nextR (findCu cus) n none (l.drop (i + 1)) = res) := Lib.hid (by rw [← HRE.out, hm]; unfold useR; simp only; rw [hk]; show nextR _ _ none _ = nextR _ _ (if _ then _ else putR (findCu cus) (m + 1) o (trimT r)) _; rw [if_neg (by simp), hp])
                rw [hp] at HPU
                clear hk hp
                go_wp2_with (first | (go_at_call 45; (with_reducible refine (HU.out _).mono ?_); rintro e w1 ⟨rfl, x1, rfl⟩) | (go_at_call 46; go_loud ((with_reducible refine (HUSE.out _ (by repeat (with_reducible first | assumption | exact grA | apply grB | apply grC | apply grD | refine grE ?_ (by omega) _ | refine grF ?_ (by omega) _ _))).mono ?_); rintro r w5 ⟨hg5, v5, rfl, hv5⟩; (have hgw5 := World.grows.trans (show World.grows wr _ from (by repeat (with_reducible first | assumption | exact grA | apply grB | apply grC | apply grD | refine grE ?_ (by omega) _ | refine grF ?_ (by omega) _ _))) hg5))) | (go_at_call 58; go_loud ((with_reducible refine (HFN.out _ hgw5).mono ?_); rintro r w6 ⟨hg6, rfl⟩; (have hgw6 := hgw5.trans hg6))) | (go_at_call 39; go_loud ((with_reducible refine (HPU.out _ v5 hgw6 (VsAt.grows hv5 hg6)).mono ?_); rintro r w7 ⟨v7, ok7, rfl, p1, p2, p3⟩; (obtain rfl : ok7 = false := p3.1))))
                go_ret2
                have e : res = none := by rw [← HRE.out]; rfl
                rw [e]
                exact ⟨_, _, rfl, p1, (HST.out.grows hgw6).gone p2, rfl, fun _ => rfl⟩

              | some o2 =>
                have HRE : Hid (nextR (findCu cus) n (some o2) (l.drop (i + 1)) = res) := Lib.hid (by rw [← HRE.out, hm]; unfold useR; simp only; rw [hk]; show nextR _ _ (some o2) _ = nextR _ _ (if _ then _ else putR (findCu cus) (m + 1) o (trimT r)) _; rw [if_neg (by simp), hp])
                have hol := putR_len hp hln
                rw [hp] at HPU
                clear hk hp
                go_wp2_with (first | (go_at_call 45; (with_reducible refine (HU.out _).mono ?_); rintro e w1 ⟨rfl, x1, rfl⟩) | (go_at_call 46; go_loud ((with_reducible refine (HUSE.out _ (by repeat (with_reducible first | assumption | exact grA | apply grB | apply grC | apply grD | refine grE ?_ (by omega) _ | refine grF ?_ (by omega) _ _))).mono ?_); rintro r w5 ⟨hg5, v5, rfl, hv5⟩; (have hgw5 := World.grows.trans (show World.grows wr _ from (by repeat (with_reducible first | assumption | exact grA | apply grB | apply grC | apply grD | refine grE ?_ (by omega) _ | refine grF ?_ (by omega) _ _))) hg5))) | (go_at_call 58; go_loud ((with_reducible refine (HFN.out _ hgw5).mono ?_); rintro r w6 ⟨hg6, rfl⟩; (have hgw6 := hgw5.trans hg6))) | (go_at_call 39; go_loud ((with_reducible refine (HPU.out _ v5 hgw6 (VsAt.grows hv5 hg6)).mono ?_); rintro r w7 ⟨v7, ok7, rfl, p1, p2, p3⟩; (obtain rfl : ok7 = true := p3.1); (obtain ⟨a7, c7, rfl⟩ := own_slice p3.2.1.1))))
                go_roundg (l.length - (i + 1))
                case measure => omega
                case rel => exact ⟨i + 1, o2, a7, c7, Lib.hid ⟨by omega, by omega⟩, by go_num, rfl, rfl, Lib.hid ⟨(HST.out.grows hgw6).next p1 p2 p3.2.1 p3.2.2, by omega, HRE.out⟩⟩
            | some ts =>
              have HFN := Lib.hid (HF.out nm)
              rw [hk] at HFN
              have HMO := Lib.hid (fun (W : World) (S2 : Nat → Prop) (u : Value) => HMORE.out W S2 u ts)
              cases hm2 : moreT o ts with
              | none =>
                have HRE : Hid (nextR (findCu cus) n none (l.drop (i + 1)) = res) := Lib.hid (by rw [← HRE.out]; unfold useR; simp only; rw [hk, ← hm2])
                rw [hm2] at HMO
                clear hk hm2
                go_wp2_with (first | (go_at_call 45; (with_reducible refine (HU.out _).mono ?_); rintro e w1 ⟨rfl, x1, rfl⟩) | (go_at_call 46; go_loud ((with_reducible refine (HUSE.out _ (by repeat (with_reducible first | assumption | exact grA | apply grB | apply grC | apply grD | refine grE ?_ (by omega) _ | refine grF ?_ (by omega) _ _))).mono ?_); rintro r w5 ⟨hg5, v5, rfl, hv5⟩; (have hgw5 := World.grows.trans (show World.grows wr _ from (by repeat (with_reducible first | assumption | exact grA | apply grB | apply grC | apply grD | refine grE ?_ (by omega) _ | refine grF ?_ (by omega) _ _))) hg5))) | (go_at_call 58; go_loud ((with_reducible refine (HFN.out _ hgw5).mono ?_); rintro r w6 ⟨hg6, v6, rfl, hts6, htl6⟩; (have hgw6 := hgw5.trans hg6))) | (go_at_call 59; go_loud ((with_reducible refine (HMO.out _ _ v6 hgw6 hts6 htl6).mono ?_); rintro r w7 ⟨v7, ok7, rfl, p1, p2, p3⟩; (obtain rfl : ok7 = false := p3.1))))
                go_ret2
                have e : res = none := by rw [← HRE.out]; rfl
                rw [e]
                exact ⟨_, _, rfl, p1, (HST.out.grows hgw6).gone p2, rfl, fun _ => rfl⟩

              | some o2 =>
                have HRE : Hid (nextR (findCu cus) n (some o2) (l.drop (i + 1)) = res) := Lib.hid (by rw [← HRE.out]; unfold useR; simp only; rw [hk, ← hm2])
                have hol := (moreT_len hm2).2
                rw [hm2] at HMO
                clear hk hm2
                go_wp2_with (first | (go_at_call 45; (with_reducible refine (HU.out _).mono ?_); rintro e w1 ⟨rfl, x1, rfl⟩) | (go_at_call 46; go_loud ((with_reducible refine (HUSE.out _ (by repeat (with_reducible first | assumption | exact grA | apply grB | apply grC | apply grD | refine grE ?_ (by omega) _ | refine grF ?_ (by omega) _ _))).mono ?_); rintro r w5 ⟨hg5, v5, rfl, hv5⟩; (have hgw5 := World.grows.trans (show World.grows wr _ from (by repeat (with_reducible first | assumption | exact grA | apply grB | apply grC | apply grD | refine grE ?_ (by omega) _ | refine grF ?_ (by omega) _ _))) hg5))) | (go_at_call 58; go_loud ((with_reducible refine (HFN.out _ hgw5).mono ?_); rintro r w6 ⟨hg6, v6, rfl, hts6, htl6⟩; (have hgw6 := hgw5.trans hg6))) | (go_at_call 59; go_loud ((with_reducible refine (HMO.out _ _ v6 hgw6 hts6 htl6).mono ?_); rintro r w7 ⟨v7, ok7, rfl, p1, p2, p3⟩; (obtain rfl : ok7 = true := p3.1); (obtain ⟨a7, c7, rfl⟩ := own_slice p3.2.1.1))))
                go_roundg (l.length - (i + 1))
                case measure => omega
                case rel => exact ⟨i + 1, o2, a7, c7, Lib.hid ⟨by omega, by omega⟩, by go_num, rfl, rfl, Lib.hid ⟨(HST.out.grows hgw6).next p1 p2 p3.2.1 p3.2.2, by omega, HRE.out⟩⟩
      · have hu' : useT (.mk ⟨kt, s, n1, d, q1, q2⟩ ks) = false := by simpa using hu
        rw [hu'] at HU
        rw [if_neg hu] at HRE
        clear hu hu'
        have HMO := Lib.hid (fun (W : World) (S2 : Nat → Prop) (u : Value) (hg : wr.grows W) (ht : SlAt W S2 6 TkR u [⟨kt, s, n1, d, q1, q2⟩]) => HMORE.out W S2 u [⟨kt, s, n1, d, q1, q2⟩] hg ht (by simp))
        go_upto_region 6 with fail
        refine abs_rows (w := wr) (G := fun W => Code.wp _ _ _ _ W) (by repeat (with_reducible first | assumption | exact grA | apply grB | apply grC | apply grD | refine grE ?_ (by omega) _ | refine grF ?_ (by omega) _ _)) [(wr.heap.size, .cells #[.int .i64 kt, .string s, .int .i64 n1, .int .i64 d, .bool q1, .bool q2, .slice aK ks.length cK] 70)] (by simp [go_sem, *]) ?_
        intro w2 gw2 hl
        simp only [List.forall_mem_cons, List.not_mem_nil, false_implies, implies_true, and_true] at hl
        have x9 := hl
        have zx9 := row_sz' x9
        have hn9 : some wr.heap.size ≠ (Value.slice a1 o.length c1).ownBlock := fun e => by have := (HST.out.own.1.lt _ e.symm).2; omega
        have hs2 := gw2.below.size
        have hlt9 := zx9.1
        clear u1 u2 z3
        by_cases hc : clo kt = 0
        · rw [if_neg (show ¬ clo (Tk.mk kt s n1 d q1 q2).k ≠ 0 from fun h => h hc)] at HRE
          have hcb : (clo kt == 0) = true := by rw [hc]; rfl
          cases hm2 : moreT o [⟨kt, s, n1, d, q1, q2⟩] with
          | none =>
            have HRE : Hid (nextR (findCu cus) n none (l.drop (i + 1)) = res) := Lib.hid (by rw [← HRE.out, hm2])
            rw [hm2] at HMO
            clear hm2
            go_wp2_with (first | (go_at_call 45; (with_reducible refine (HU.out _).mono ?_); rintro e w1 ⟨rfl, x1, rfl⟩) | (go_at_call 42; (with_reducible refine (fclo_any kt _).mono ?_); rintro e w1 ⟨rfl, x1, rfl⟩) | (go_at_call 59; go_loud ((with_reducible refine (HMO.out _ (fun _ => True) _ (gw2.trans (by repeat (with_reducible first | assumption | exact grA | apply grB | apply grC | apply grD | refine grE ?_ (by omega) _ | refine grF ?_ (by omega) _ _))) (tk1_at (t := ⟨kt, s, n1, d, q1, q2⟩) (by simp [go_sem]) HTW.out)).mono ?_); rintro r w7 ⟨v7, ok7, rfl, p1, p2, p3⟩; (obtain rfl : ok7 = false := p3.1))))
            go_ret2
            have e : res = none := by rw [← HRE.out]; rfl
            rw [e]
            exact ⟨_, _, rfl, p1, (HST.out.grows (gw2.trans (by repeat (with_reducible first | assumption | exact grA | apply grB | apply grC | apply grD | refine grE ?_ (by omega) _ | refine grF ?_ (by omega) _ _)))).gone p2, rfl, fun _ => rfl⟩
          | some o2 =>
            have HRE : Hid (nextR (findCu cus) n (some o2) (l.drop (i + 1)) = res) := Lib.hid (by rw [← HRE.out, hm2])
            have hol := (moreT_len hm2).2
            rw [hm2] at HMO
            clear hm2
            go_wp2_with (first | (go_at_call 45; (with_reducible refine (HU.out _).mono ?_); rintro e w1 ⟨rfl, x1, rfl⟩) | (go_at_call 42; (with_reducible refine (fclo_any kt _).mono ?_); rintro e w1 ⟨rfl, x1, rfl⟩) | (go_at_call 59; go_loud ((with_reducible refine (HMO.out _ (fun _ => True) _ (gw2.trans (by repeat (with_reducible first | assumption | exact grA | apply grB | apply grC | apply grD | refine grE ?_ (by omega) _ | refine grF ?_ (by omega) _ _))) (tk1_at (t := ⟨kt, s, n1, d, q1, q2⟩) (by simp [go_sem]) HTW.out)).mono ?_); rintro r w7 ⟨v7, ok7, rfl, p1, p2, p3⟩; (obtain rfl : ok7 = true := p3.1); (obtain ⟨a7, c7, rfl⟩ := own_slice p3.2.1.1))))
            go_roundg (l.length - (i + 1))
            case measure => omega
            case rel => exact ⟨i + 1, o2, a7, c7, Lib.hid ⟨by omega, by omega⟩, by go_num, rfl, rfl, Lib.hid ⟨(HST.out.grows (gw2.trans (by repeat (with_reducible first | assumption | exact grA | apply grB | apply grC | apply grD | refine grE ?_ (by omega) _ | refine grF ?_ (by omega) _ _)))).next p1 p2 p3.2.1 p3.2.2, by omega, HRE.out⟩⟩
        · rw [if_pos (show clo (Tk.mk kt s n1 d q1 q2).k ≠ 0 from hc)] at HRE
          have hcb : (clo kt == 0) = false := by simpa using hc
          obtain ⟨m, hm, hmay⟩ := chk_open HCHK.out (show clo kt ≠ 0 from hc)
          cases hm2 : moreT o [⟨kt, s, n1, d, q1, q2⟩] with
          | none =>
            have HRE : Hid (nextR (findCu cus) n none (l.drop (i + 1)) = res) := Lib.hid (by rw [← HRE.out, hm2]; rfl)
            rw [hm2] at HMO
            clear hm2
            go_wp2_with (first | (go_at_call 45; (with_reducible refine (HU.out _).mono ?_); rintro e w1 ⟨rfl, x1, rfl⟩) | (go_at_call 42; (with_reducible refine (fclo_any kt _).mono ?_); rintro e w1 ⟨rfl, x1, rfl⟩) | (go_at_call 59; go_loud ((with_reducible refine (HMO.out _ (fun _ => True) _ (gw2.trans (by repeat (with_reducible first | assumption | exact grA | apply grB | apply grC | apply grD | refine grE ?_ (by omega) _ | refine grF ?_ (by omega) _ _))) (tk1_at (t := ⟨kt, s, n1, d, q1, q2⟩) (by simp [go_sem]) HTW.out)).mono ?_); rintro r w7 ⟨v7, ok7, rfl, p1, p2, p3⟩; (obtain rfl : ok7 = false := p3.1))))
            go_ret2
            have e : res = none := by rw [← HRE.out]; rfl
            rw [e]
            exact ⟨_, _, rfl, p1, (HST.out.grows (gw2.trans (by repeat (with_reducible first | assumption | exact grA | apply grB | apply grC | apply grD | refine grE ?_ (by omega) _ | refine grF ?_ (by omega) _ _)))).gone p2, rfl, fun _ => rfl⟩
          | some o1 =>
            have ho1 := (moreT_len hm2).2
            have HPU : Hid (∀ (W : World) (a : Option Addr) (c : Nat), FSt w0 w B (.slice aO out.length cO) W (.slice a o1.length c) o1 → o1.length ≤ 512 → Calls Tryz.prog 39 #[.slice aK ks.length cK, .slice aC cus.length cC, .slice a o1.length c] W (PutPost w0 W B (.slice a o1.length c) true (putR (findCu cus) (m + 1) o1 ks))) := Lib.hid fun W a c h2 hl2 => HIH.out m hm w0 W B _ cus Sk _ o1 (fun g => S g ∧ g < w.heap.size) _ ks ⟨h2.g0, HP.out.b0, Nat.le_trans HP.out.bB h2.gb.size, h2.own, HP.out.knAt h2.gb, HP.out.kl, HP.out.sk, HKS.out.keep (fun g hg _ => ⟨(rowB h2.gb hg.2 (HP.out.dl g hg.1)).trans (rowB HST.out.gb hg.2 (HP.out.dl g hg.1)).symm, hg⟩) (fun _ _ _ h => h.keep fun g hg _ => ⟨(rowB h2.gb hg.2 (HP.out.dl g hg.1)).trans (rowB HST.out.gb hg.2 (HP.out.dl g hg.1)).symm, hg⟩), HP.out.dlAt h2.gr, hmay, HND.out, hl2, by omega⟩
            cases hp : putR (findCu cus) (m + 1) o1 ks with
            | none =>
              have HRE : Hid (nextR (findCu cus) n none (l.drop (i + 1)) = res) := Lib.hid (by rw [← HRE.out, hm2]; show nextR _ _ none _ = nextR _ _ (openR1 (putR (findCu cus) n o1 ks) kt) _; rw [hm, hp]; rfl)
              rw [hm2] at HMO
              rw [hp] at HPU
              clear hm2 hp
              go_wp2_with (first | (go_at_call 45; (with_reducible refine (HU.out _).mono ?_); rintro e w1 ⟨rfl, x1, rfl⟩) | (go_at_call 42; (with_reducible refine (fclo_any kt _).mono ?_); rintro e w1 ⟨rfl, x1, rfl⟩) | (go_at_call 59; go_loud ((with_reducible refine (HMO.out _ (fun _ => True) _ (gw2.trans (by repeat (with_reducible first | assumption | exact grA | apply grB | apply grC | apply grD | refine grE ?_ (by omega) _ | refine grF ?_ (by omega) _ _))) (tk1_at (t := ⟨kt, s, n1, d, q1, q2⟩) (by simp [go_sem]) HTW.out)).mono ?_); rintro r w7 ⟨v7, ok7, rfl, p1, p2, p3⟩; (obtain rfl : ok7 = true := p3.1); (obtain ⟨a7, c7, rfl⟩ := own_slice p3.2.1.1); (have hF7 := (HST.out.grows (gw2.trans (by repeat (with_reducible first | assumption | exact grA | apply grB | apply grC | apply grD | refine grE ?_ (by omega) _ | refine grF ?_ (by omega) _ _)))).next p1 p2 p3.2.1 p3.2.2); (have z97 := rowG x9 p2 (by repeat (with_reducible first | assumption | exact grA | apply grB | apply grC | apply grD | refine grE ?_ (by omega) _ | refine grF ?_ (by omega) _ _)) hn9); (have zz97 := row_sz' z97); (have hn79 : some wr.heap.size ≠ (Value.slice a7 o1.length c7).ownBlock := fun e => (by rcases p3.2.2 with e1 | ⟨q, e1, hq⟩; exact hn9 (e.trans e1); rw [e1] at e; injection e with e; (have hh : w2.heap.size ≤ q := Nat.le_trans (World.grows.below (by repeat (with_reducible first | assumption | exact grA | apply grB | apply grC | apply grD | refine grE ?_ (by omega) _ | refine grF ?_ (by omega) _ _))).size hq); omega)); (have HF7 := Lib.hid hF7); (have HQ2 := Lib.hid (And.intro p2 p3)); clear hF7 p2 p3)) | (go_at_call 39; go_loud ((with_reducible refine (HPU.out _ _ _ HF7.out ho1).mono ?_); rintro r w8 ⟨v8, ok8, rfl, r1, r2, r3⟩; (obtain rfl : ok8 = false := r3.1))))
              go_ret2
              have e : res = none := by rw [← HRE.out]; rfl
              rw [e]
              exact ⟨_, _, rfl, r1, HF7.out.gone r2, rfl, fun _ => rfl⟩
            | some o2 =>
              have ho2 := putR_len hp ho1
              have HM2 : Hid (∀ (W : World) (a : Option Addr) (c : Nat), FSt w0 w B (.slice aO out.length cO) W (.slice a o2.length c) o2 → o2.length ≤ 512 → ∀ (W' : World), W.grows W' → ∀ (u : Value), SlAt W' (fun _ => True) 6 TkR u [shutTk kt] → Calls Tryz.prog 59 #[.slice a o2.length c, u] W' (PutPost w0 W' B (.slice a o2.length c) true (moreT o2 [shutTk kt]))) := Lib.hid fun W a c h2 hl2 W' hg u hu => by
                have h3 := h2.grows hg
                exact fmore_any h3.g0 HP.out.b0 (Nat.le_trans HP.out.bB h3.gb.size) h3.own (by omega) hu (by simp)
              cases hm3 : moreT o2 [shutTk kt] with
              | none =>
                have HRE : Hid (nextR (findCu cus) n none (l.drop (i + 1)) = res) := Lib.hid (by rw [← HRE.out, hm2]; show nextR _ _ none _ = nextR _ _ (openR1 (putR (findCu cus) n o1 ks) kt) _; rw [hm, hp]; show nextR _ _ none _ = nextR _ _ (moreT o2 [shutTk kt]) _; rw [hm3])
                rw [hm2] at HMO
                rw [hp] at HPU
                rw [hm3] at HM2
                clear hm2 hp hm3
                go_wp2_with (first | (go_at_call 45; (with_reducible refine (HU.out _).mono ?_); rintro e w1 ⟨rfl, x1, rfl⟩) | (go_at_call 42; (with_reducible refine (fclo_any kt _).mono ?_); rintro e w1 ⟨rfl, x1, rfl⟩) | (go_at_call 59; go_loud ((with_reducible refine (HM2.out _ _ _ HF8.out ho2 _ (by repeat (with_reducible first | assumption | exact grA | apply grB | apply grC | apply grD | refine grE ?_ (by omega) _ | refine grF ?_ (by omega) _ _)) _ (shut1_at (by simp [go_sem]))).mono ?_); rintro r w9 ⟨v9, ok9, rfl, t1, t2, t3⟩; (obtain rfl : ok9 = false := t3.1))) | (go_at_call 59; go_loud ((with_reducible refine (HMO.out _ (fun _ => True) _ (gw2.trans (by repeat (with_reducible first | assumption | exact grA | apply grB | apply grC | apply grD | refine grE ?_ (by omega) _ | refine grF ?_ (by omega) _ _))) (tk1_at (t := ⟨kt, s, n1, d, q1, q2⟩) (by simp [go_sem]) HTW.out)).mono ?_); rintro r w7 ⟨v7, ok7, rfl, p1, p2, p3⟩; (obtain rfl : ok7 = true := p3.1); (obtain ⟨a7, c7, rfl⟩ := own_slice p3.2.1.1); (have hF7 := (HST.out.grows (gw2.trans (by repeat (with_reducible first | assumption | exact grA | apply grB | apply grC | apply grD | refine grE ?_ (by omega) _ | refine grF ?_ (by omega) _ _)))).next p1 p2 p3.2.1 p3.2.2); (have z97 := rowG x9 p2 (by repeat (with_reducible first | assumption | exact grA | apply grB | apply grC | apply grD | refine grE ?_ (by omega) _ | refine grF ?_ (by omega) _ _)) hn9); (have zz97 := row_sz' z97); (have hn79 : some wr.heap.size ≠ (Value.slice a7 o1.length c7).ownBlock := fun e => (by rcases p3.2.2 with e1 | ⟨q, e1, hq⟩; exact hn9 (e.trans e1); rw [e1] at e; injection e with e; (have hh : w2.heap.size ≤ q := Nat.le_trans (World.grows.below (by repeat (with_reducible first | assumption | exact grA | apply grB | apply grC | apply grD | refine grE ?_ (by omega) _ | refine grF ?_ (by omega) _ _))).size hq); omega)); (have HF7 := Lib.hid hF7); (have HQ2 := Lib.hid (And.intro p2 p3)); clear hF7 p2 p3)) | (go_at_call 39; go_loud ((with_reducible refine (HPU.out _ _ _ HF7.out ho1).mono ?_); rintro r w8 ⟨v8, ok8, rfl, r1, r2, r3⟩; (obtain rfl : ok8 = true := r3.1); (obtain ⟨a8, c8, rfl⟩ := own_slice r3.2.1.1); (have hF8 := HF7.out.next r1 r2 r3.2.1 r3.2.2); (have z98 := rowG z97 r2 World.grows.refl hn79); (have zz98 := row_sz' z98); (have HF8 := Lib.hid hF8); clear hF8 r2 r3)))
                go_ret2
                have e : res = none := by rw [← HRE.out]; rfl
                rw [e]
                exact ⟨_, _, rfl, t1, (HF8.out.grows (by repeat (with_reducible first | assumption | exact grA | apply grB | apply grC | apply grD | refine grE ?_ (by omega) _ | refine grF ?_ (by omega) _ _))).gone t2, rfl, fun _ => rfl⟩
              | some o3 =>
                have HRE : Hid (nextR (findCu cus) n (some o3) (l.drop (i + 1)) = res) := Lib.hid (by rw [← HRE.out, hm2]; show nextR _ _ (some o3) _ = nextR _ _ (openR1 (putR (findCu cus) n o1 ks) kt) _; rw [hm, hp]; show nextR _ _ (some o3) _ = nextR _ _ (moreT o2 [shutTk kt]) _; rw [hm3])
                have ho3 := (moreT_len hm3).2
                rw [hm2] at HMO
                rw [hp] at HPU
                rw [hm3] at HM2
                clear hm2 hp hm3
                go_wp2_with (first | (go_at_call 45; (with_reducible refine (HU.out _).mono ?_); rintro e w1 ⟨rfl, x1, rfl⟩) | (go_at_call 42; (with_reducible refine (fclo_any kt _).mono ?_); rintro e w1 ⟨rfl, x1, rfl⟩) | (go_at_call 59; go_loud ((with_reducible refine (HM2.out _ _ _ HF8.out ho2 _ (by repeat (with_reducible first | assumption | exact grA | apply grB | apply grC | apply grD | refine grE ?_ (by omega) _ | refine grF ?_ (by omega) _ _)) _ (shut1_at (by simp [go_sem]))).mono ?_); rintro r w9 ⟨v9, ok9, rfl, t1, t2, t3⟩; (obtain rfl : ok9 = true := t3.1); (obtain ⟨a9, c9, rfl⟩ := own_slice t3.2.1.1))) | (go_at_call 59; go_loud ((with_reducible refine (HMO.out _ (fun _ => True) _ (gw2.trans (by repeat (with_reducible first | assumption | exact grA | apply grB | apply grC | apply grD | refine grE ?_ (by omega) _ | refine grF ?_ (by omega) _ _))) (tk1_at (t := ⟨kt, s, n1, d, q1, q2⟩) (by simp [go_sem]) HTW.out)).mono ?_); rintro r w7 ⟨v7, ok7, rfl, p1, p2, p3⟩; (obtain rfl : ok7 = true := p3.1); (obtain ⟨a7, c7, rfl⟩ := own_slice p3.2.1.1); (have hF7 := (HST.out.grows (gw2.trans (by repeat (with_reducible first | assumption | exact grA | apply grB | apply grC | apply grD | refine grE ?_ (by omega) _ | refine grF ?_ (by omega) _ _)))).next p1 p2 p3.2.1 p3.2.2); (have z97 := rowG x9 p2 (by repeat (with_reducible first | assumption | exact grA | apply grB | apply grC | apply grD | refine grE ?_ (by omega) _ | refine grF ?_ (by omega) _ _)) hn9); (have zz97 := row_sz' z97); (have hn79 : some wr.heap.size ≠ (Value.slice a7 o1.length c7).ownBlock := fun e => (by rcases p3.2.2 with e1 | ⟨q, e1, hq⟩; exact hn9 (e.trans e1); rw [e1] at e; injection e with e; (have hh : w2.heap.size ≤ q := Nat.le_trans (World.grows.below (by repeat (with_reducible first | assumption | exact grA | apply grB | apply grC | apply grD | refine grE ?_ (by omega) _ | refine grF ?_ (by omega) _ _))).size hq); omega)); (have HF7 := Lib.hid hF7); (have HQ2 := Lib.hid (And.intro p2 p3)); clear hF7 p2 p3)) | (go_at_call 39; go_loud ((with_reducible refine (HPU.out _ _ _ HF7.out ho1).mono ?_); rintro r w8 ⟨v8, ok8, rfl, r1, r2, r3⟩; (obtain rfl : ok8 = true := r3.1); (obtain ⟨a8, c8, rfl⟩ := own_slice r3.2.1.1); (have hF8 := HF7.out.next r1 r2 r3.2.1 r3.2.2); (have z98 := rowG z97 r2 World.grows.refl hn79); (have zz98 := row_sz' z98); (have HF8 := Lib.hid hF8); clear hF8 r2 r3)))
                go_roundg (l.length - (i + 1))
                case measure => omega
                case rel => exact ⟨i + 1, o3, a9, c9, Lib.hid ⟨by omega, by omega⟩, by go_num, rfl, rfl, Lib.hid ⟨(HF8.out.grows (by repeat (with_reducible first | assumption | exact grA | apply grB | apply grC | apply grD | refine grE ?_ (by omega) _ | refine grF ?_ (by omega) _ _))).next t1 t2 t3.2.1 t3.2.2, by omega, HRE.out⟩⟩
    · have iI : ¬ (i : Int) < (l.length : Int) := by omega
      obtain rfl : i = l.length := by omega
      go_wp2_with fail
      go_ret2
      have h2 := HS.out.2.2
      rw [List.drop_length, putR_nil] at h2
      rw [← h2]
      exact ⟨_, _, rfl, HS.out.1.g0, HS.out.1.gb, rfl, HS.out.1.own, HS.out.1.gr⟩
/-- put behind tokens -/
theorem fput_any : ∀ n : Nat, PutCR n
  | 0 => fput_step 0 fun m hm => by omega
  | n + 1 => fput_step (n + 1) fun m hm => by
      obtain rfl : n = m := by omega
      exact fput_any n
end Go.Proofs.YthcaphoejplecaaGreatDoor

/- WALK over vars: what stands for a use is put behind tokens. No condition but bounds. -/
import Derived.Test.YthcaphoejplecaaGreatDoorVaB
set_option linter.unusedSimpArgs false
set_option linter.unusedVariables false
namespace Go
open Go.RowKit
theorem grownBy_of_grows {w W : World} (h : w.grows W) (r : Option Nat) : w.grownBy W r := by
  obtain ⟨h1, h2, h3, h4, h5⟩ := h.below
  exact ⟨h1, h2, h3, h4, fun k hk _ => h5 k hk⟩
theorem grownBy_trans {w w1 w2 : World} {r r1 : Option Nat} (h : w.grownBy w1 r) (h1 : w1.grownBy w2 r1) (hr : ∀ k, r1 = some k → r = some k ∨ w.heap.size ≤ k) : w.grownBy w2 r :=
  ⟨h1.os.trans h.os, h1.tape.trans h.tape, h1.output.trans h.output, Nat.le_trans h.size h1.size, fun k hk hne => (h1.block k (Nat.lt_of_lt_of_le hk h.size) (fun e => by
    rcases hr k e.symm with h2 | h2
    · exact hne h2.symm
    · omega)).trans (h.block k hk hne)⟩
theorem tkC_len : ∀ l : List Tk, (l.flatMap Tk.cs).length = l.length * 6
  | [] => rfl
  | a :: l => by rw [List.flatMap_cons, List.length_append, tkC_len l]; simp; omega
theorem mem_front {x : Vt} {l : List Vt} (h : x ∈ frontT l) : x ∈ l := (List.dropWhile_suffix _).subset h
theorem mem_trim {x : Vt} {l : List Vt} (h : x ∈ trimT l) : x ∈ l := by
  rw [trimT_eq] at h
  unfold backT at h
  rw [List.mem_reverse] at h
  exact mem_front (List.mem_reverse.1 ((List.dropWhile_suffix _).subset h))
theorem mayV_sub {n : Nat} {l l' : List Vt} (h : mayV n l = true) (hs : ∀ x ∈ l', x ∈ l) : mayV n l' = true := by
  rw [mayV_all, List.all_eq_true] at *
  exact fun x hx => h x (hs x hx)
theorem namedT_some {v : Vt} {nm : ByteArray} {rest : List Vt} (h : namedT v = some (nm, rest)) : ∃ a l, trimT v.kids = a :: l ∧ nm = a.t.s ∧ rest = trimT l := by
  unfold namedT at h
  cases ht : trimT v.kids with
  | nil => rw [ht] at h; cases h
  | cons a l =>
    rw [ht] at h
    simp only at h
    split at h
    · cases h
    · cases h2 : trimT l with
      | nil =>
        rw [h2] at h
        simp only [Option.some.injEq, Prod.mk.injEq] at h
        exact ⟨a, l, rfl, h.1.symm, h.2.symm.trans h2.symm⟩
      | cons b r =>
        rw [h2] at h
        simp only at h
        split at h
        · cases h
        · simp only [Option.some.injEq, Prod.mk.injEq] at h
          exact ⟨a, l, rfl, h.1.symm, h.2.symm.trans h2.symm⟩
theorem named_sub {v : Vt} {nm : ByteArray} {x : Vt} {rest : List Vt} {n : Nat} (h : namedT v = some (nm, x :: rest)) (hn : nodesL v.kids ≤ 4194304) (hm : mayV n v.kids = true) : nodesL (trimT rest) ≤ 4194304 ∧ nodesL rest ≤ 4194304 ∧ mayV n (trimT rest) = true := by
  obtain ⟨a, l, h1, _, h3⟩ := namedT_some h
  have e1 := nodesL_trim v.kids
  rw [h1] at e1
  simp only [nodesL] at e1
  have e2 := nodesL_trim l
  rw [← h3] at e2
  simp only [nodesL] at e2
  have e3 := nodesL_trim rest
  refine ⟨by omega, by omega, mayV_sub hm fun y hy => ?_⟩
  have q1 : y ∈ trimT l := by rw [← h3]; exact List.mem_cons_of_mem _ (mem_trim hy)
  exact mem_trim (by rw [h1]; exact List.mem_cons_of_mem _ (mem_trim q1))
/-- what stands for a use -/
def useP (k : Known) (n : Nat) (out : List Tk) (v : Vt) : Option (List Tk) := match namedT v with
  | none => none
  | some (name, rest) => match k name with
    | some t => if out.length + t.length ≤ 512 then some (out ++ t) else none
    | none => if rest = [] then none else putP k n out (trimT rest.tail)
/-- tokens in memory, their cells side by side -/
theorem tks_cells {w : World} {S : Nat → Prop} {a : Option Addr} {len cap : Nat} {l : List Tk} (h : SlAt w S 6 TkR (.slice a len cap) l) : (l.flatMap Tk.cs).length = len * 6 ∧ (∀ t ∈ l, t.Wf) ∧ (len = 0 ∨ ∃ ad, a = some ad ∧ ∀ j u, (l.flatMap Tk.cs)[j]? = some u → w.cell? (ad.add j) = some u) := by
  obtain ⟨rfl, css, h1, h2, h3, h4⟩ := h.cells (by omega)
  have e : ∀ (l : List Tk) (css : List (List Value)), css.length = l.length → (∀ (i : Nat) (x : Tk) (cs : List Value), l[i]? = some x → css[i]? = some cs → cs = x.cs) → css.flatten = l.flatMap Tk.cs := fun l => by
    induction l with
    | nil => intro css h _; obtain rfl := List.length_eq_zero_iff.1 h; rfl
    | cons a l ih =>
      intro css h h2
      cases css with
      | nil => cases h
      | cons c css =>
        rw [List.flatten_cons, List.flatMap_cons, ih css (by simpa using h) (fun i x cs p q => h2 (i + 1) x cs (by simpa using p) (by simpa using q)), h2 0 a c rfl rfl]
  have e2 := e l css h1 fun i x cs p q => (h2 i x cs p q).2.1
  rw [e2] at h4
  refine ⟨tkC_len l, fun t ht => ?_, h4⟩
  obtain ⟨i, hi, rfl⟩ := List.mem_iff_getElem.1 ht
  exact (h2 i l[i] css[i] (List.getElem?_eq_getElem hi) (List.getElem?_eq_getElem (by omega))).2.2
theorem one_tks : ∀ (l : List Tk), ∀ u ∈ l.flatMap Tk.cs, u.oneCell' = true := fun l u hu => by
  obtain ⟨t, _, ht⟩ := List.mem_flatMap.1 hu
  simp only [List.mem_cons, List.not_mem_nil, or_false] at ht
  rcases ht with rfl | rfl | rfl | rfl | rfl | rfl <;> rfl
end Go
namespace Go.Proofs.YthcaphoejplecaaGreatDoor
open Go.RowKit
/-- tokens in a row of the call's own -/
def TkO (w : World) (B : Nat) (v : Value) (l : List Tk) : Prop := w.ownsRow B 65 6 v l.length (l.flatMap Tk.cs) ∧ ∀ t ∈ l, t.Wf
theorem TkO.nil (w : World) (B : Nat) : TkO w B (.slice none 0 0) [] := ⟨World.ownsRow_nil _ _ _ _, fun _ h => by cases h⟩
/-- how put and use end -/
def PutPost (w0 w : World) (B : Nat) (vO : Value) (nil : Bool) (o : Option (List Tk)) (e : Ending) (w' : World) : Prop :=
  ∃ (r : Value) (ok : Bool), e = .returned (.tuple #[r, .bool ok]) ∧ w0.grows w' ∧ w.grownBy w' vO.ownBlock ∧ match o with
    | none => ok = false ∧ (nil = true → r = .slice none 0 0)
    | some ts => ok = true ∧ TkO w' B r ts ∧ GrO w.heap.size vO r
/-- what put and use are given -/
structure PutPre (n : Nat) (w0 w : World) (B : Nat) (mp : Value) (k : Known) (Sk : Nat → Prop) (vO : Value) (out : List Tk) (S : Nat → Prop) (vl : Value) (l : List Vt) : Prop where
  g0 : w0.grows w
  b0 : w0.heap.size ≤ B
  bB : B ≤ w.heap.size
  own : TkO w B vO out
  kn : KAt w Sk mp k
  sk : ∀ g, Sk g → g < B
  vl : VsAt w S vl l
  dl : ∀ g, S g → vO.ownBlock ≠ some g
  may : mayV n l = true
  nod : nodesL l ≤ 4194304
  len : out.length + n ≤ 600
  n64 : n ≤ 64
abbrev PutC (n : Nat) : Prop := ∀ (w0 w : World) (B : Nat) (mp : Value) (k : Known) (Sk : Nat → Prop) (vO : Value) (out : List Tk) (S : Nat → Prop) (vl : Value) (l : List Vt), PutPre n w0 w B mp k Sk vO out S vl l → Calls Tryz.prog 34 #[mp, vO, vl] w (PutPost w0 w B vO true (putP k (n + 1) out l))
set_option maxRecDepth 100000 in
set_option maxHeartbeats 4000000 in
theorem kuse_any {n : Nat} (IH : PutC n) {w0 w : World} {B : Nat} {mp : Value} {k : Known} {Sk : Nat → Prop} {vO : Value} {out : List Tk} {S : Nat → Prop} {t : Tk} {vk : Value} {ks : List Vt} (h : PutPre n w0 w B mp k Sk vO out S vk ks) (ht : t.Wf) (hu : useT (.mk t ks) = true) :
    Calls Tryz.prog 54 #[mp, vO, vtV t vk] w (PutPost w0 w B vO false (useP k (n + 1) out (.mk t ks))) := by
  obtain ⟨b, c, f, D, rfl, hsb, hM, hf⟩ := h.kn
  obtain ⟨aO, cO, rfl⟩ := own_slice h.own.1
  obtain ⟨aK, cK, rfl, -, -⟩ := SlAt.len h.vl
  have HP := Lib.hid h
  have HM := Lib.hid hM
  have HF := Lib.hid hf
  have HNM := Lib.hid (fun (W : World) (hg : w.grows W) => named_any (w := W) ht (VsAt.grows h.vl hg) h.nod)
  rw [if_pos hu] at HNM
  have hlen := h.len
  have HUP : Hid (useP k (n + 1) out (.mk t ks) = match namedT (.mk t ks) with
    | none => none
    | some (name, rest) => match k name with
      | some t => if out.length + t.length ≤ 512 then some (out ++ t) else none
      | none => if rest = [] then none else putP k (n + 1) out (trimT rest.tail)) := Lib.hid rfl
  obtain ⟨kt, s, n1, d, q1, q2⟩ := t
  clear h hM hf hu
  have HIH := Lib.hid IH
  clear IH
  have HRS : Hid (∀ nm x rest, namedT (.mk ⟨kt, s, n1, d, q1, q2⟩ ks) = some (nm, x :: rest) → nodesL (trimT rest) ≤ 4194304 ∧ nodesL rest ≤ 4194304 ∧ mayV n (trimT rest) = true) := Lib.hid fun nm x rest hh => named_sub hh HP.out.nod HP.out.may
  generalize namedT (.mk ⟨kt, s, n1, d, q1, q2⟩ ks) = o at *
  generalize useP k (n + 1) out (.mk ⟨kt, s, n1, d, q1, q2⟩ ks) = res at *
  cases o with
  | none =>
    go_enter Tryz.func54, Tryz.ntmps54
    go_wp2_with (go_at_call 33; go_loud ((with_reducible refine (HNM.out _ (by repeat (with_reducible first | assumption | exact grA | apply grB | apply grC | apply grD | refine grE ?_ (by omega) _ | refine grF ?_ (by omega) _ _))).mono ?_); rintro r w5 ⟨hg5, rfl⟩))
    go_ret2
    rw [HUP.out]
    exact ⟨_, _, rfl, HP.out.g0.trans (World.grows.trans (by repeat (with_reducible first | assumption | exact grA | apply grB | apply grC | apply grD | refine grE ?_ (by omega) _ | refine grF ?_ (by omega) _ _)) hg5), grownBy_of_grows (World.grows.trans (by repeat (with_reducible first | assumption | exact grA | apply grB | apply grC | apply grD | refine grE ?_ (by omega) _ | refine grF ?_ (by omega) _ _)) hg5) _, rfl, fun h => by cases h⟩
  | some x =>
    obtain ⟨nm, rest⟩ := x
    have hf2 := HF.out nm
    cases hk : k nm with
    | some ts =>
      rw [hk] at hf2
      obtain ⟨u, hfu, hts, htl⟩ := hf2
      obtain ⟨aT, cT, rfl, -, -⟩ := hts.len
      have HTS := Lib.hid (And.intro hts htl)
      have HFU := Lib.hid hfu
      have HR : Hid (res = if out.length + ts.length ≤ 512 then some (out ++ ts) else none) := Lib.hid (by rw [HUP.out]; simp only; rw [hk])
      clear hts htl hfu hk HUP
      go_enter Tryz.func54, Tryz.ntmps54
      go_upto_region 4 with (go_at_call 33; go_loud ((with_reducible refine (HNM.out _ (by repeat (with_reducible first | assumption | exact grA | apply grB | apply grC | apply grD | refine grE ?_ (by omega) _ | refine grF ?_ (by omega) _ _))).mono ?_); rintro r w5 ⟨hg5, v5, rfl, hv5, hnm⟩))
      have hg : w.grows w5 := World.grows.trans (by repeat (with_reducible first | assumption | exact grA | apply grB | apply grC | apply grD | refine grE ?_ (by omega) _ | refine grF ?_ (by omega) _ _)) hg5
      have hlk := (HM.out.grows hg).look_ok nm hnm
      rw [HFU.out] at hlk
      simp only [Option.getD_some, Option.isSome_some] at hlk
      clear hv5 hg5
      obtain ⟨tl1, tl2, tl3⟩ := tks_cells (HTS.out.1.grows hg fun _ _ _ h => h)
      have HT1 := Lib.hid tl1
      have HT2 := Lib.hid tl2
      have HT3 := Lib.hid tl3
      have hol : out.length ≤ 600 := by omega
      have htl2 := HTS.out.2
      clear tl1 tl2 tl3
      have hBw := HP.out.bB
      have hgs := hg.below.size
      have hg05 : w0.grows w5 := HP.out.g0.trans hg
      have hb00 := HP.out.b0
      have hB5 : B ≤ w5.heap.size := by omega
      go_wp2_with ((at_builtin; refine wpList_appS w0 (B) rfl (.tmp 28) (.tmp 29) _ rfl 65 (.agg #[.int .i64 0, .string ByteArray.empty, .int .i64 0, .int .i64 0, .bool false, .bool false]) 6 48 Tryz.underlying27 (by kernel_rfl) rfl (by omega) (by omega) _ out.length _ rfl ((HP.out.own.1.grows hg)) _ ts.length _ (ts.flatMap Tk.cs) rfl HT1.out HT3.out (one_tks ts) (by omega) (by repeat (with_reducible first | assumption | exact grA | apply grB | apply grC | apply grD | refine grE ?_ (by omega) _ | refine grF ?_ (by omega) _ _)) (by omega) (by first | omega | (simp <;> omega)) ?_; intro v' w' hg' HO' HR' HG' HA'))
      go_ret2
      refine ⟨_, _, rfl, hg', grownBy_trans (grownBy_of_grows hg _) HG'.out (fun k hk => .inl hk), ?_⟩
      rw [HR.out]
      by_cases h512 : out.length + ts.length ≤ 512
      · rw [if_pos h512]
        refine ⟨?_, ⟨by simpa using HO'.out, fun t ht => ?_⟩, ?_⟩
        · exact decide_eq_true (by omega)
        · rcases List.mem_append.1 ht with h1 | h1
          · exact HP.out.own.2 t h1
          · exact HT2.out t h1
        · rcases HA'.out with e | e
          · exact .inl e
          · exact .inr ⟨_, e, hgs⟩
      · rw [if_neg h512]
        exact ⟨decide_eq_false (by omega), fun h => by cases h⟩
    | none =>
      rw [hk] at hf2
      have HFU := Lib.hid hf2
      have HR : Hid (res = if rest = [] then none else putP k (n + 1) out (trimT rest.tail)) := Lib.hid (by rw [HUP.out]; simp only; rw [hk])
      clear hf2 hk HUP
      go_enter Tryz.func54, Tryz.ntmps54
      go_upto_region 4 with (go_at_call 33; go_loud ((with_reducible refine (HNM.out _ (by repeat (with_reducible first | assumption | exact grA | apply grB | apply grC | apply grD | refine grE ?_ (by omega) _ | refine grF ?_ (by omega) _ _))).mono ?_); rintro r w5 ⟨hg5, v5, rfl, hv5, hnm⟩))
      have hg : w.grows w5 := World.grows.trans (by repeat (with_reducible first | assumption | exact grA | apply grB | apply grC | apply grD | refine grE ?_ (by omega) _ | refine grF ?_ (by omega) _ _)) hg5
      have hlk := (HM.out.grows hg).look_ok nm hnm
      rw [HFU.out] at hlk
      simp only [Option.getD_none, Option.isSome_none] at hlk
      have HV5 : Hid (VsAt w5 (fun g => w.heap.size ≤ g) v5 rest) := Lib.hid (hv5.keep fun g hS hl => ⟨rfl, Nat.le_trans (World.grows.below (show World.grows w _ from (by repeat (with_reducible first | assumption | exact grA | apply grB | apply grC | apply grD | refine grE ?_ (by omega) _ | refine grF ?_ (by omega) _ _)))).size hS⟩)
      obtain ⟨a5, c5, rfl, -, -⟩ := hv5.len
      clear hv5 hg5
      cases rest with
      | nil =>
        simp only [List.length_nil] at *
        go_wp2_with fail
        go_ret2
        rw [HR.out]
        exact ⟨_, _, rfl, HP.out.g0.trans (hg.trans (by repeat (with_reducible first | assumption | exact grA | apply grB | apply grC | apply grD | refine grE ?_ (by omega) _ | refine grF ?_ (by omega) _ _))), grownBy_of_grows (hg.trans (by repeat (with_reducible first | assumption | exact grA | apply grB | apply grC | apply grD | refine grE ?_ (by omega) _ | refine grF ?_ (by omega) _ _))) _, rfl, fun h => by cases h⟩
      | cons x rest =>
        have hR2 : Hid (res = putP k (n + 1) out (trimT rest)) := Lib.hid (by rw [HR.out]; rfl)
        obtain ⟨g5, off5, cs5, rfl, -, -, -, -⟩ := HV5.out.elt (i := 0) (x := x) rfl
        obtain ⟨b1, b2, b3⟩ := HV5.out.bound
        simp only [List.length_cons] at b1 b2 ⊢
        have i0 : ((rest.length : Int) + 1 == 0) = false := by rw [beq_eq_false_iff_ne]; omega
        have i1 : ¬ ((rest.length : Int) + 1 = 0) := by omega
        have c1 : (1 : Int) ≤ (rest.length : Int) + 1 := by omega
        have HSUB := Lib.hid (HRS.out nm x rest rfl)
        have HPRE : Hid (∀ (W : World) (v : Value) (S' : Nat → Prop), w.grows W → VsAt W S' v (trimT rest) → (∀ g, S' g → w.heap.size ≤ g) → PutPre n w0 W B (.map (some b)) k Sk (.slice aO out.length cO) out S' v (trimT rest)) := Lib.hid fun W v S' hgW hv hS' => ⟨HP.out.g0.trans hgW, HP.out.b0, Nat.le_trans HP.out.bB hgW.below.size, ⟨HP.out.own.1.grows hgW, HP.out.own.2⟩, HP.out.kn.grows hgW, HP.out.sk, hv, (fun g hg e => by have h1 := hS' g hg; have h2 := (HP.out.own.1.lt g e).2; omega), HSUB.out.2.2, HSUB.out.1, HP.out.len, HP.out.n64⟩
        by_cases hcap : c5 = 1
        · subst hcap
          obtain rfl : rest = [] := List.length_eq_zero_iff.1 (by omega)
          have HARG := Lib.hid (SlAt_empty w5 (fun g => w.heap.size ≤ g) 7 (VOk w5 (fun g => w.heap.size ≤ g)) (some ⟨g5, off5, none⟩) 0 (by omega))
          simp only [List.length_nil] at *
          go_wp2_with (first | (go_at_call 52; go_loud ((with_reducible refine (rtrim_any (HARG.out.grows (show World.grows w5 _ from (by repeat (with_reducible first | assumption | exact grA | apply grB | apply grC | apply grD | refine grE ?_ (by omega) _ | refine grF ?_ (by omega) _ _))) (fun _ _ _ h => h.grows (by repeat (with_reducible first | assumption | exact grA | apply grB | apply grC | apply grD | refine grE ?_ (by omega) _ | refine grF ?_ (by omega) _ _)))) HSUB.out.2.1).mono ?_); rintro r w6 ⟨v6, rfl, hg6, hv6⟩)) | (go_at_call 34; go_loud ((with_reducible refine (HIH.out w0 w6 B _ k Sk _ out _ v6 (trimT []) (HPRE.out w6 v6 _ (hg.trans (World.grows.trans (by repeat (with_reducible first | assumption | exact grA | apply grB | apply grC | apply grD | refine grE ?_ (by omega) _ | refine grF ?_ (by omega) _ _)) hg6)) hv6 (fun q hq => Nat.le_trans hg.below.size (Nat.le_trans (World.grows.below (by repeat (with_reducible first | assumption | exact grA | apply grB | apply grC | apply grD | refine grE ?_ (by omega) _ | refine grF ?_ (by omega) _ _))).size hq)))).mono ?_); rintro r w7 ⟨v7, ok7, rfl, p1, p2, p3⟩)))
          go_ret2
          rw [hR2.out]
          have hg6w : w.grows w6 := hg.trans (World.grows.trans (by repeat (with_reducible first | assumption | exact grA | apply grB | apply grC | apply grD | refine grE ?_ (by omega) _ | refine grF ?_ (by omega) _ _)) hg6)
          refine ⟨_, _, rfl, p1, grownBy_trans (grownBy_of_grows hg6w _) p2 (fun k hk => .inl hk), ?_⟩
          cases hp : putP k (n + 1) out (trimT []) with
          | none => rw [hp] at p3; exact ⟨p3.1, fun h => by cases h⟩
          | some ts =>
            rw [hp] at p3
            refine ⟨p3.1, p3.2.1, ?_⟩
            rcases p3.2.2 with e | ⟨q, e1, e2⟩
            · exact .inl e
            · exact .inr ⟨q, e1, Nat.le_trans hg6w.below.size e2⟩
        · have c2 : (1 : Int) ≤ (c5 : Int) := by omega
          have c3 : ¬ (c5 : Int) = 1 := by omega
          have HARG := Lib.hid (SlAt.tail1 HV5.out)
          go_wp2_with (first | (go_at_call 52; go_loud ((with_reducible refine (rtrim_any (HARG.out.grows (show World.grows w5 _ from (by repeat (with_reducible first | assumption | exact grA | apply grB | apply grC | apply grD | refine grE ?_ (by omega) _ | refine grF ?_ (by omega) _ _))) (fun _ _ _ h => h.grows (by repeat (with_reducible first | assumption | exact grA | apply grB | apply grC | apply grD | refine grE ?_ (by omega) _ | refine grF ?_ (by omega) _ _)))) HSUB.out.2.1).mono ?_); rintro r w6 ⟨v6, rfl, hg6, hv6⟩)) | (go_at_call 34; go_loud ((with_reducible refine (HIH.out w0 w6 B _ k Sk _ out _ v6 (trimT rest) (HPRE.out w6 v6 _ (hg.trans (World.grows.trans (by repeat (with_reducible first | assumption | exact grA | apply grB | apply grC | apply grD | refine grE ?_ (by omega) _ | refine grF ?_ (by omega) _ _)) hg6)) hv6 (fun q hq => Nat.le_trans hg.below.size (Nat.le_trans (World.grows.below (by repeat (with_reducible first | assumption | exact grA | apply grB | apply grC | apply grD | refine grE ?_ (by omega) _ | refine grF ?_ (by omega) _ _))).size hq)))).mono ?_); rintro r w7 ⟨v7, ok7, rfl, p1, p2, p3⟩)))
          go_ret2
          rw [hR2.out]
          have hg6w : w.grows w6 := hg.trans (World.grows.trans (by repeat (with_reducible first | assumption | exact grA | apply grB | apply grC | apply grD | refine grE ?_ (by omega) _ | refine grF ?_ (by omega) _ _)) hg6)
          refine ⟨_, _, rfl, p1, grownBy_trans (grownBy_of_grows hg6w _) p2 (fun k hk => .inl hk), ?_⟩
          cases hp : putP k (n + 1) out (trimT rest) with
          | none => rw [hp] at p3; exact ⟨p3.1, fun h => by cases h⟩
          | some ts =>
            rw [hp] at p3
            refine ⟨p3.1, p3.2.1, ?_⟩
            rcases p3.2.2 with e | ⟨q, e1, e2⟩
            · exact .inl e
            · exact .inr ⟨q, e1, Nat.le_trans hg6w.below.size e2⟩
end Go.Proofs.YthcaphoejplecaaGreatDoor

/- Texts of the walk, one after the other; what each proves stands ahead of it. -/
import Derived.Test.YthcaphoejplecaaGreatDoorVaE
set_option linter.unusedSimpArgs false
set_option linter.unusedVariables false
/- WALKS over vars: tokens with what is known put in. No condition but bounds. -/
namespace Go
open Go.RowKit
/-- how much a parse holds -/
def Ps.nod (p : Ps) : Nat := p.os.length + (p.ls.map nodesL).sum
theorem Ps.shut_nod {p : Ps} (h : p.ls.length = p.os.length + 1) (ho : p.os ≠ []) : p.shut.nod = p.nod := by
  obtain ⟨os, t, ls, m, l, rfl, _⟩ := Ps.shut_parts h ho
  rw [Ps.shut_mk]
  unfold Ps.nod
  simp [nodesL_app, nodesL, Vt.nodes]
  omega
theorem Ps.step_nod {p : Ps} (h : p.ls.length = p.os.length + 1) (t : Tk) : (p.step t).nod ≤ p.nod + 1 := by
  unfold Ps.step
  split
  · unfold Ps.nod; simp [nodesL]; omega
  · split
    · next hc => rw [Ps.shut_nod h hc.1]; omega
    · obtain ⟨O, L⟩ := p
      obtain ⟨l1, m, h1, h2⟩ := snoc_of h
      simp only at *
      subst h1
      rw [addTop_snoc]
      unfold Ps.nod; simp [nodesL_app, nodesL, Vt.nodes]; omega
theorem Ps.run_nod : ∀ (i : Nat) (l : List Tk), (Ps.run (l.take i)).nod ≤ i
  | 0, l => by simp [Ps.run, Ps.nod, nodesL]
  | i + 1, l => by
    by_cases h : i < l.length
    · rw [Ps.run_succ (List.getElem?_eq_getElem h)]
      have := Ps.step_nod (Ps.run_len (l.take i)) l[i]
      have := Ps.run_nod i l
      omega
    · have := Ps.run_nod i l
      rw [List.take_of_length_le (by omega)] at this ⊢
      omega
theorem Ps.ends_nod : ∀ (n : Nat) (p : Ps), n = p.os.length → p.ls.length = p.os.length + 1 → (Ps.ends n p).nod = p.nod ∧ (Ps.ends n p).ls.length = 1
  | 0, p, hn, hl => ⟨rfl, by show p.ls.length = 1; omega⟩
  | n + 1, p, hn, hl => by
    have ho : p.os ≠ [] := fun e => by rw [e] at hn; simp at hn
    have h1 := Ps.shut_len hl ho
    have h2 : n = p.shut.os.length := by unfold Ps.shut; simp; omega
    obtain ⟨e1, e2⟩ := Ps.ends_nod n p.shut h2 h1
    exact ⟨e1.trans (Ps.shut_nod hl ho), e2⟩
theorem parse_nodes (l : List Tk) : nodesL (parse l) ≤ l.length := by
  have h1 := Ps.run_nod l.length l
  rw [List.take_length] at h1
  obtain ⟨e1, e2⟩ := Ps.ends_nod _ (Ps.run l) rfl (Ps.run_len l)
  unfold parse
  generalize Ps.ends (Ps.run l).os.length (Ps.run l) = q at *
  obtain ⟨qo, ql⟩ := q
  cases ql with
  | nil => simp at e2
  | cons a t =>
    unfold Ps.nod at e1 h1
    simp at e1 ⊢
    omega
/-- tokens with what is known put in: what comes of it, and the error -/
def putAll (k : Known) (l : List Tk) : List Tk × Int :=
  if mayV 64 (parse l) = false then ([], 1) else match putP k 65 [] (parse l) with
    | none => ([], 11)
    | some o => if mayV 64 (parse o) = true then (o, 0) else ([], 11)
end Go
namespace Go.Proofs.YthcaphoejplecaaGreatDoor
open Go.RowKit
set_option maxRecDepth 100000 in
theorem rMay_any {S : Nat → Prop} {v : Value} {l : List Vt} {w : World} (h : VsAt w S v l) : Calls Tryz.prog 31 #[v] w (Gives w (.bool (mayV 64 l))) := by
  have H := Lib.hid (fun (W : World) (hg : w.grows W) => rmay_any 64 0 l v S W ⟨by decide, by decide⟩ (VsAt.grows h hg))
  clear h
  generalize mayV 64 l = b at *
  go_enter Tryz.func31, Tryz.ntmps31
  go_wp2_with ((go_at_call 50; (with_reducible refine (H.out _ (by repeat (with_reducible first | assumption | exact grA | apply grB | apply grC | apply grD | refine grE ?_ (by omega) _ | refine grF ?_ (by omega) _ _))).mono ?_); rintro e w1 ⟨rfl, x1, rfl⟩))
  go_ret
  exact ⟨rfl, (by repeat (with_reducible first | assumption | exact grA | apply grB | apply grC | apply grD | refine grE ?_ (by omega) _ | refine grF ?_ (by omega) _ _))⟩
set_option maxRecDepth 100000 in
theorem fMay_any {S : Nat → Prop} {v : Value} {l : List Vt} {w : World} (h : VsAt w S v l) : Calls Tryz.prog 27 #[v] w (Gives w (.bool (mayV 64 l))) := by
  have H := Lib.hid (fun (W : World) (hg : w.grows W) => fmay_any 64 64 l v S W ⟨by decide, by decide⟩ (VsAt.grows h hg))
  clear h
  generalize mayV 64 l = b at *
  go_enter Tryz.func27, Tryz.ntmps27
  go_wp2_with ((go_at_call 44; (with_reducible refine (H.out _ (by repeat (with_reducible first | assumption | exact grA | apply grB | apply grC | apply grD | refine grE ?_ (by omega) _ | refine grF ?_ (by omega) _ _))).mono ?_); rintro e w1 ⟨rfl, x1, rfl⟩))
  go_ret
  exact ⟨rfl, (by repeat (with_reducible first | assumption | exact grA | apply grB | apply grC | apply grD | refine grE ?_ (by omega) _ | refine grF ?_ (by omega) _ _))⟩
theorem TkO.slAt {w : World} {B : Nat} {v : Value} {l : List Tk} {S : Nat → Prop} (h : TkO w B v l) (hS : ∀ g, B ≤ g → g < w.heap.size → S g) : SlAt w S 6 TkR v l := by
  have ho : OwnAt w B 65 6 TkR v l := ⟨l.map Tk.cs, by simp, fun i x cs p q => by
    rw [List.getElem?_map, p] at q
    simp only [Option.map_some, Option.some.injEq] at q
    subst q
    exact ⟨rfl, rfl, h.2 x (List.mem_of_getElem? p)⟩, by rw [← List.flatMap_def]; exact h.1⟩
  exact OwnAt.slAt ho (by omega) fun g hg => hS g (h.1.lt g hg).1 (h.1.lt g hg).2
/-- how vars.put ends -/
def PutAllPost (w : World) (p : List Tk × Int) (e : Ending) (w' : World) : Prop := ∃ r, e = .returned (.tuple #[r, .int .i64 p.2]) ∧ w.grows w' ∧ SlAt w' (fun g => w.heap.size ≤ g ∧ g < w'.heap.size) 6 TkR r p.1
set_option maxRecDepth 100000 in
set_option maxHeartbeats 4000000 in
theorem vput_any {w : World} {v : Value} {l : List Tk} {mp : Value} {k : Known} {Sk : Nat → Prop} (h : TksAt w v l) (hl : l.length ≤ 4194304) (hk : KAt w Sk mp k) (hS : ∀ g, Sk g → g < w.heap.size) :
    Calls Tryz.prog 17 #[v, mp] w (PutAllPost w (putAll k l)) := by
  have HV := Lib.hid (rValues_any h hl)
  have HK := Lib.hid hk
  have HS := Lib.hid hS
  have HN := Lib.hid (Nat.le_trans (parse_nodes l) hl)
  clear h hk hS
  go_enter Tryz.func17, Tryz.ntmps17
  go_upto_region 2 with (go_at_call 30; go_loud ((with_reducible refine HV.out.mono ?_); rintro r w1 ⟨v1, rfl, hg1, hv1⟩))
  have HV1 := Lib.hid hv1
  have HM1 := Lib.hid (fun (W : World) (hg : w1.grows W) => rMay_any (VsAt.grows hv1 hg))
  clear hv1
  cases hm : mayV 64 (parse l) with
  | false =>
    have HR := Lib.hid (show putAll k l = ([], 1) by unfold putAll; rw [if_pos hm])
    rw [hm] at HM1
    clear hm
    go_wp2_with ((go_at_call 31; (with_reducible refine (HM1.out _ (by repeat (with_reducible first | assumption | exact grA | apply grB | apply grC | apply grD | refine grE ?_ (by omega) _ | refine grF ?_ (by omega) _ _))).mono ?_); rintro e w1 ⟨rfl, x1, rfl⟩))
    go_ret2
    rw [HR.out]
    exact ⟨_, rfl, hg1.trans (by repeat (with_reducible first | assumption | exact grA | apply grB | apply grC | apply grD | refine grE ?_ (by omega) _ | refine grF ?_ (by omega) _ _)), SlAt_nil _ _ _ _⟩
  | true =>
    rw [hm] at HM1
    have HPUT : Hid (∀ W : World, w1.grows W → Calls Tryz.prog 34 #[mp, .slice none 0 0, v1] W (PutPost w W W.heap.size (.slice none 0 0) true (putP k 65 [] (parse l)))) := Lib.hid fun W hg => kput_any 64 w W W.heap.size mp k Sk _ [] _ v1 (parse l) ⟨hg1.trans hg, (hg1.trans hg).below.size, Nat.le_refl _, TkO.nil _ _, HK.out.grows (hg1.trans hg), (fun g hg2 => Nat.lt_of_lt_of_le (HS.out g hg2) (hg1.trans hg).below.size), VsAt.grows HV1.out hg, (fun g _ e => by cases e), hm, HN.out, by decide, by decide⟩
    cases hp : putP k 65 [] (parse l) with
    | none =>
      have HR := Lib.hid (show putAll k l = ([], 11) by unfold putAll; rw [if_neg (by rw [hm]; decide), hp])
      rw [hp] at HPUT
      clear hm hp
      go_wp2_with (first | (go_at_call 31; (with_reducible refine (HM1.out _ (by repeat (with_reducible first | assumption | exact grA | apply grB | apply grC | apply grD | refine grE ?_ (by omega) _ | refine grF ?_ (by omega) _ _))).mono ?_); rintro e w1 ⟨rfl, x1, rfl⟩) | (go_at_call 34; go_loud ((with_reducible refine (HPUT.out _ (by repeat (with_reducible first | assumption | exact grA | apply grB | apply grC | apply grD | refine grE ?_ (by omega) _ | refine grF ?_ (by omega) _ _))).mono ?_); rintro r w7 ⟨v7, ok7, rfl, p1, p2, p3⟩; (obtain rfl : ok7 = false := p3.1))))
      go_ret2
      rw [HR.out]
      exact ⟨_, rfl, p1, SlAt_nil _ _ _ _⟩
    | some o =>
      have hob := putP_bound hp (by simp)
      have HR := Lib.hid (show putAll k l = if mayV 64 (parse o) = true then (o, 0) else ([], 11) by unfold putAll; rw [if_neg (by rw [hm]; decide), hp])
      rw [hp] at HPUT
      clear hm hp
      go_upto_region 5 with (first | (go_at_call 31; (with_reducible refine (HM1.out _ (by repeat (with_reducible first | assumption | exact grA | apply grB | apply grC | apply grD | refine grE ?_ (by omega) _ | refine grF ?_ (by omega) _ _))).mono ?_); rintro e w1 ⟨rfl, x1, rfl⟩) | (go_at_call 34; go_loud ((with_reducible refine (HPUT.out _ (by repeat (with_reducible first | assumption | exact grA | apply grB | apply grC | apply grD | refine grE ?_ (by omega) _ | refine grF ?_ (by omega) _ _))).mono ?_); rintro r w7 ⟨v7, ok7, rfl, p1, p2, p3⟩; (obtain rfl : ok7 = true := p3.1); (obtain ⟨a7, c7, rfl⟩ := own_slice p3.2.1.1))))
      have HT7 := Lib.hid (show SlAt w7 (fun g => w.heap.size ≤ g ∧ g < w7.heap.size) 6 TkR (.slice a7 o.length c7) o from p3.2.1.slAt fun g h1 h2 => ⟨Nat.le_trans (hg1.trans (by repeat (with_reducible first | assumption | exact grA | apply grB | apply grC | apply grD | refine grE ?_ (by omega) _ | refine grF ?_ (by omega) _ _))).below.size h1, h2⟩)
      have HV2 := Lib.hid (rValues_any (HT7.out.keep (fun g hg _ => ⟨rfl, trivial⟩) fun _ _ _ h => h) (by omega))
      clear p2 p3
      cases hm2 : mayV 64 (parse o) with
      | true =>
        rw [hm2, if_pos rfl] at HR
        go_wp2_with (first | (go_at_call 30; go_loud ((with_reducible refine HV2.out.mono ?_); rintro r w9 ⟨v9, rfl, hg9, hv9⟩; (have HM9 := Lib.hid (rMay_any hv9)); (rw [hm2] at HM9))) | (go_at_call 31; (with_reducible refine (HM9.out).mono ?_); rintro e w1 ⟨rfl, x1, rfl⟩))
        go_ret2
        rw [HR.out]
        exact ⟨_, rfl, p1.trans (hg9.trans (by repeat (with_reducible first | assumption | exact grA | apply grB | apply grC | apply grD | refine grE ?_ (by omega) _ | refine grF ?_ (by omega) _ _))), HT7.out.keep (fun g hg hl => ⟨(hg9.trans (by repeat (with_reducible first | assumption | exact grA | apply grB | apply grC | apply grD | refine grE ?_ (by omega) _ | refine grF ?_ (by omega) _ _))).row_eq hl, hg.1, Nat.lt_of_lt_of_le hl (hg9.trans (by repeat (with_reducible first | assumption | exact grA | apply grB | apply grC | apply grD | refine grE ?_ (by omega) _ | refine grF ?_ (by omega) _ _))).below.size⟩) fun _ _ _ h => h⟩
      | false =>
        rw [hm2, if_neg (by decide)] at HR
        go_wp2_with (first | (go_at_call 30; go_loud ((with_reducible refine HV2.out.mono ?_); rintro r w9 ⟨v9, rfl, hg9, hv9⟩; (have HM9 := Lib.hid (rMay_any hv9)); (rw [hm2] at HM9))) | (go_at_call 31; (with_reducible refine (HM9.out).mono ?_); rintro e w1 ⟨rfl, x1, rfl⟩))
        go_ret2
        rw [HR.out]
        exact ⟨_, rfl, p1.trans (hg9.trans (by repeat (with_reducible first | assumption | exact grA | apply grB | apply grC | apply grD | refine grE ?_ (by omega) _ | refine grF ?_ (by omega) _ _))), SlAt_nil _ _ _ _⟩
end Go.Proofs.YthcaphoejplecaaGreatDoor

/- WALKS over jalousieref21: what is found of a name; tokens behind tokens. No condition but bounds. -/
namespace Go
open Go.RowKit
theorem find_rev_none {l : List Cu} {nm : ByteArray} (h : ∀ c ∈ l, c.n ≠ nm) : l.reverse.find? (fun c => decide (c.n = nm)) = none := by
  rw [List.find?_eq_none]
  intro c hc
  simpa using h c (List.mem_reverse.1 hc)
theorem findCu_at {l : List Cu} {j : Nat} {c : Cu} (hj : l[j]? = some c) (hcu : customB c.n = true) (h : ∀ c' ∈ l.drop (j + 1), c'.n ≠ c.n) : findCu l c.n = some c.ts := by
  unfold findCu
  rw [if_pos hcu]
  have hl := (List.getElem?_eq_some_iff.1 hj).1
  have hd : l = l.take j ++ c :: l.drop (j + 1) := by
    have := (List.getElem?_eq_some_iff.1 hj).2
    rw [← this, ← List.drop_eq_getElem_cons hl, List.take_append_drop]
  conv => lhs; rw [hd]
  rw [List.reverse_append, List.reverse_cons, List.find?_append, List.find?_append, find_rev_none h]
  simp
theorem findCu_none {l : List Cu} {nm : ByteArray} (h : customB nm = false ∨ ∀ c ∈ l, c.n ≠ nm) : findCu l nm = none := by
  unfold findCu
  split
  · rcases h with h | h
    · rename_i hc; rw [h] at hc; cases hc
    · rw [find_rev_none h]; rfl
  · rfl
theorem ba_toList_inj {a b : ByteArray} (h : a.toList = b.toList) : a = b := by
  rw [ByteArray.toList_eq, ByteArray.toList_eq] at h
  obtain ⟨x⟩ := a; obtain ⟨y⟩ := b
  have : x = y := Array.toList_inj.1 h
  rw [this]
end Go
namespace Go.Proofs.YthcaphoejplecaaGreatDoor
open Go.RowKit
/-- how Find ends -/
def FindPost (w : World) (S : Nat → Prop) (o : Option (List Tk)) (e : Ending) (w' : World) : Prop := w.grows w' ∧ match o with
  | none => e = .returned (.tuple #[.slice none 0 0, .bool false])
  | some ts => ∃ u, e = .returned (.tuple #[u, .bool true]) ∧ SlAt w' S 6 TkR u ts ∧ ts.length ≤ 4194304
set_option maxRecDepth 100000 in
set_option maxHeartbeats 4000000 in
theorem ffind_any {w : World} {S : Nat → Prop} {v : Value} {l : List Cu} {nm : ByteArray} (h : CusAt w S v l) (hl : l.length ≤ 4194304) :
    Calls Tryz.prog 58 #[v, .string nm] w (FindPost w S (findCu l nm)) := by
  obtain ⟨a, cap, rfl, -, -⟩ := SlAt.len h
  have H0 := Lib.hid h
  have HCU := Lib.hid (fun (W : World) => fcustom_any nm W)
  clear h
  obtain ⟨res, hres⟩ : ∃ res, findCu l nm = res := ⟨_, rfl⟩
  have HRES := Lib.hid hres
  rw [hres]
  clear hres
  have hw1 : IntKind.i64.wrap ((l.length : Int) - 1) = (l.length : Int) - 1 := by rw [IntKind.wrap_i64]; omega
  go_enter Tryz.func58, Tryz.ntmps58
  go_wp2_with fail
  go_loopg [6] l.length (fun gn v6 wj => ∃ q : Nat, Hid (gn = q ∧ q ≤ l.length) ∧ v6 = .int .i64 ((q : Int) - 1) ∧ w.grows wj ∧ Hid (customB nm = false ∨ ∀ c ∈ l.drop q, c.n ≠ nm))
  case atStart => exact ⟨l.length, Lib.hid ⟨rfl, Nat.le_refl _⟩, rfl, (by repeat (with_reducible first | assumption | exact grA | apply grB | apply grC | apply grD | refine grE ?_ (by omega) _ | refine grF ?_ (by omega) _ _)), Lib.hid (.inr fun c hc => by simp at hc)⟩
  case round =>
    obtain ⟨q, HQ, rfl, hgj, HN⟩ := hrel
    obtain ⟨jq, j2⟩ := HQ.out
    cases q with
    | zero =>
      have HR := Lib.hid (show res = none by
        rw [← HRES.out]
        exact findCu_none (by simpa using HN.out))
      have i0 : ¬ (0 : Int) ≤ (((0 : Nat) : Int) - 1) := by omega
      go_wp2_with fail
      go_ret2
      rw [HR.out]
      exact ⟨hgj.trans (by repeat (with_reducible first | assumption | exact grA | apply grB | apply grC | apply grD | refine grE ?_ (by omega) _ | refine grF ?_ (by omega) _ _)), rfl⟩
    | succ q =>
      have hgt : l[q]? = some l[q] := List.getElem?_eq_getElem (by omega)
      obtain ⟨g, off, cs, rfl, -, -, k1, hv⟩ := H0.out.elt hgt
      have hdrop : l.drop q = l[q] :: l.drop (q + 1) := List.drop_eq_getElem_cons (by omega)
      generalize l[q] = x at *
      obtain ⟨n, ts⟩ := x
      obtain ⟨hnm, u, rfl, hts, htl⟩ := hv
      obtain ⟨aT, cT, rfl, -, -⟩ := hts.len
      have k2 := k1.grows hgj
      have z3 := lt_sz k2.lt
      have c0 := k2.cell (j := 0) rfl
      have c1 := k2.cell (j := 1) rfl
      rw [World.cell?_row, Nat.add_zero] at c0
      rw [World.cell?_row] at c1
      have e0 : (((q + 1 : Nat) : Int) - 1) = (q : Int) := by omega
      have i0 : (0 : Int) ≤ (q : Int) := by omega
      have i1 : (q : Int) < (l.length : Int) := by omega
      have iw : IntKind.i64.wrap ((q : Int) - 1) = (q : Int) - 1 := by rw [IntKind.wrap_i64]; omega
      have HTS := Lib.hid (And.intro hts htl)
      have HGT := Lib.hid hgt
      have HD := Lib.hid hdrop
      clear k1 k2 hts htl hgt hdrop
      rw [e0]
      clear e0
      by_cases hnn : n = nm
      · subst hnn
        have hb : (n.toList == n.toList) = true := by simp
        cases hc : customB n with
        | true =>
          rw [hc] at HCU
          have HR := Lib.hid (show res = some ts by
            rw [← HRES.out]
            exact findCu_at HGT.out hc (by
              rcases HN.out with h | h
              · rw [hc] at h; cases h
              · exact h))
          clear hc
          go_wp2_with ((go_at_call 38; (with_reducible refine (HCU.out _).mono ?_); rintro e w1 ⟨rfl, x1, rfl⟩))
          go_ret2
          rw [HR.out]
          exact ⟨hgj.trans (by repeat (with_reducible first | assumption | exact grA | apply grB | apply grC | apply grD | refine grE ?_ (by omega) _ | refine grF ?_ (by omega) _ _)), _, rfl, HTS.out.1.grows (hgj.trans (by repeat (with_reducible first | assumption | exact grA | apply grB | apply grC | apply grD | refine grE ?_ (by omega) _ | refine grF ?_ (by omega) _ _))) fun _ _ _ h => h, HTS.out.2⟩
        | false =>
          rw [hc] at HCU
          have HC := Lib.hid hc
          clear hc
          go_wp2_with ((go_at_call 38; (with_reducible refine (HCU.out _).mono ?_); rintro e w1 ⟨rfl, x1, rfl⟩))
          go_roundg q
          case measure => omega
          case rel => exact ⟨q, Lib.hid ⟨rfl, by omega⟩, by go_num, hgj.trans (by repeat (with_reducible first | assumption | exact grA | apply grB | apply grC | apply grD | refine grE ?_ (by omega) _ | refine grF ?_ (by omega) _ _)), Lib.hid (.inl HC.out)⟩
      · have hb : (n.toList == nm.toList) = false := by
          rw [beq_eq_false_iff_ne]; exact fun e => hnn (ba_toList_inj e)
        have hb2 : ¬ n.toList = nm.toList := fun e => hnn (ba_toList_inj e)
        have HNN := Lib.hid hnn
        clear hnn
        go_wp2_with ((go_at_call 38; (with_reducible refine (HCU.out _).mono ?_); rintro e w1 ⟨rfl, x1, rfl⟩))
        go_roundg q
        case measure => omega
        case rel =>
          refine ⟨q, Lib.hid ⟨rfl, by omega⟩, by go_num, hgj.trans (by repeat (with_reducible first | assumption | exact grA | apply grB | apply grC | apply grD | refine grE ?_ (by omega) _ | refine grF ?_ (by omega) _ _)), Lib.hid ?_⟩
          rcases HN.out with h | h
          · exact .inl h
          · refine .inr fun c hc => ?_
            rw [HD.out] at hc
            rcases List.mem_cons.1 hc with rfl | hc
            · exact HNN.out
            · exact h c hc
set_option maxRecDepth 100000 in
/-- tokens behind tokens, if they are not too many -/
theorem fmore_any {w0 w : World} {B : Nat} {vO : Value} {out : List Tk} {S : Nat → Prop} {u : Value} {ts : List Tk} (g0 : w0.grows w) (b0 : w0.heap.size ≤ B) (bB : B ≤ w.heap.size) (ho : TkO w B vO out) (hl : out.length ≤ 4194304) (ht : SlAt w S 6 TkR u ts) (htl : ts.length ≤ 4194304) :
    Calls Tryz.prog 59 #[vO, u] w (PutPost w0 w B vO true (moreT out ts)) := by
  obtain ⟨aO, cO, rfl⟩ := own_slice ho.1
  obtain ⟨aT, cT, rfl, -, -⟩ := ht.len
  obtain ⟨tl1, tl2, tl3⟩ := tks_cells ht
  have HO := Lib.hid ho
  have HT1 := Lib.hid tl1
  have HT2 := Lib.hid tl2
  have HT3 := Lib.hid tl3
  clear ho ht tl1 tl2 tl3
  by_cases h : 512 < out.length + ts.length
  · have m1 : (512 : Int) < (out.length : Int) + (ts.length : Int) := by omega
    have HR := Lib.hid (show moreT out ts = none by unfold moreT; rw [if_pos h])
    go_enter Tryz.func59, Tryz.ntmps59
    go_wp2_with fail
    go_ret2
    rw [HR.out]
    exact ⟨_, _, rfl, g0.trans (by repeat (with_reducible first | assumption | exact grA | apply grB | apply grC | apply grD | refine grE ?_ (by omega) _ | refine grF ?_ (by omega) _ _)), grownBy_of_grows (by repeat (with_reducible first | assumption | exact grA | apply grB | apply grC | apply grD | refine grE ?_ (by omega) _ | refine grF ?_ (by omega) _ _)) _, rfl, fun _ => rfl⟩
  · have m1 : ¬ (512 : Int) < (out.length : Int) + (ts.length : Int) := by omega
    have HR := Lib.hid (show moreT out ts = some (out ++ ts) by unfold moreT; rw [if_neg h])
    go_enter Tryz.func59, Tryz.ntmps59
    go_wp2_with ((at_builtin; refine wpList_appS w0 (B) rfl (.tmp 12) (.tmp 13) _ rfl 65 (.agg #[.int .i64 0, .string ByteArray.empty, .int .i64 0, .int .i64 0, .bool false, .bool false]) 6 48 Tryz.underlying27 (by kernel_rfl) rfl (by omega) (by omega) _ out.length _ rfl (HO.out.1) _ ts.length _ (ts.flatMap Tk.cs) rfl HT1.out HT3.out (one_tks ts) (by omega) (by repeat (with_reducible first | assumption | exact grA | apply grB | apply grC | apply grD | refine grE ?_ (by omega) _ | refine grF ?_ (by omega) _ _)) (by omega) (by first | omega | (simp <;> omega)) ?_; intro v' w' hg' HO' HR' HG' HA'))
    go_ret2
    rw [HR.out]
    refine ⟨_, _, rfl, hg', HG'.out, rfl, ⟨by simpa using HO'.out, fun t ht => ?_⟩, ?_⟩
    · rcases List.mem_append.1 ht with h1 | h1
      · exact HO.out.2 t h1
      · exact HT2.out t h1
    · rcases HA'.out with e | e
      · exact .inl e
      · exact .inr ⟨_, e, Nat.le_refl _⟩
end Go.Proofs.YthcaphoejplecaaGreatDoor

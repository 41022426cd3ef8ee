/- WALKS over vars: tokens with what is known put in. No condition but bounds. -/
import Derived.Test.YthcaphoejplecaaDoorVaE
set_option linter.unusedSimpArgs false
set_option linter.unusedVariables false
namespace Go
open Go.RowKit
/-- how much a parse holds -/
def Ps.nod (p : Ps) : Nat := p.os.length + (p.ls.map nodesL).sum
theorem Ps.shut_nod {p : Ps} (h : p.ls.length = p.os.length + 1) (ho : p.os ≠ []) : p.shut.nod = p.nod := by
  obtain ⟨os, t, ls, m, l, rfl, _⟩ := Ps.shut_parts h ho
  rw [Ps.shut_mk]
  unfold Ps.nod
  simp [nodesL_app, nodesL, Vt.nodes]
  omega
theorem Ps.step_nod {p : Ps} (h : p.ls.length = p.os.length + 1) (t : Tk) : (p.step t).nod ≤ p.nod + 1 := by
  unfold Ps.step
  split
  · unfold Ps.nod; simp [nodesL]; omega
  · split
    · next hc => rw [Ps.shut_nod h hc.1]; omega
    · obtain ⟨O, L⟩ := p
      obtain ⟨l1, m, h1, h2⟩ := snoc_of h
      simp only at *
      subst h1
      rw [addTop_snoc]
      unfold Ps.nod; simp [nodesL_app, nodesL, Vt.nodes]; omega
theorem Ps.run_nod : ∀ (i : Nat) (l : List Tk), (Ps.run (l.take i)).nod ≤ i
  | 0, l => by simp [Ps.run, Ps.nod, nodesL]
  | i + 1, l => by
    by_cases h : i < l.length
    · rw [Ps.run_succ (List.getElem?_eq_getElem h)]
      have := Ps.step_nod (Ps.run_len (l.take i)) l[i]
      have := Ps.run_nod i l
      omega
    · have := Ps.run_nod i l
      rw [List.take_of_length_le (by omega)] at this ⊢
      omega
theorem Ps.ends_nod : ∀ (n : Nat) (p : Ps), n = p.os.length → p.ls.length = p.os.length + 1 → (Ps.ends n p).nod = p.nod ∧ (Ps.ends n p).ls.length = 1
  | 0, p, hn, hl => ⟨rfl, by show p.ls.length = 1; omega⟩
  | n + 1, p, hn, hl => by
    have ho : p.os ≠ [] := fun e => by rw [e] at hn; simp at hn
    have h1 := Ps.shut_len hl ho
    have h2 : n = p.shut.os.length := by unfold Ps.shut; simp; omega
    obtain ⟨e1, e2⟩ := Ps.ends_nod n p.shut h2 h1
    exact ⟨e1.trans (Ps.shut_nod hl ho), e2⟩
theorem parse_nodes (l : List Tk) : nodesL (parse l) ≤ l.length := by
  have h1 := Ps.run_nod l.length l
  rw [List.take_length] at h1
  obtain ⟨e1, e2⟩ := Ps.ends_nod _ (Ps.run l) rfl (Ps.run_len l)
  unfold parse
  generalize Ps.ends (Ps.run l).os.length (Ps.run l) = q at *
  obtain ⟨qo, ql⟩ := q
  cases ql with
  | nil => simp at e2
  | cons a t =>
    unfold Ps.nod at e1 h1
    simp at e1 ⊢
    omega
/-- tokens with what is known put in: what comes of it, and the error -/
def putAll (k : Known) (l : List Tk) : List Tk × Int :=
  if mayV 64 (parse l) = false then ([], 1) else match putP k 65 [] (parse l) with
    | none => ([], 11)
    | some o => if mayV 64 (parse o) = true then (o, 0) else ([], 11)
end Go
namespace Go.Proofs.YthcaphoejplecaaDoor
open Go.RowKit
set_option maxRecDepth 100000 in
theorem rMay_any {S : Nat → Prop} {v : Value} {l : List Vt} {w : World} (h : VsAt w S v l) : Calls Tryd.prog 34 #[v] w (Gives w (.bool (mayV 64 l))) := by
  have H := Lib.hid (fun (W : World) (hg : w.grows W) => rmay_any 64 0 l v S W ⟨by decide, by decide⟩ (VsAt.grows h hg))
  clear h
  generalize mayV 64 l = b at *
  go_enter Tryd.func34, Tryd.ntmps34
  go_wp2_with ((go_at_call 50; (with_reducible refine (H.out _ (by repeat (with_reducible first | assumption | exact grA | apply grB | apply grC | apply grD | refine grE ?_ (by omega) _ | refine grF ?_ (by omega) _ _))).mono ?_); rintro e w1 ⟨rfl, x1, rfl⟩))
  go_ret
  exact ⟨rfl, (by repeat (with_reducible first | assumption | exact grA | apply grB | apply grC | apply grD | refine grE ?_ (by omega) _ | refine grF ?_ (by omega) _ _))⟩
set_option maxRecDepth 100000 in
theorem fMay_any {S : Nat → Prop} {v : Value} {l : List Vt} {w : World} (h : VsAt w S v l) : Calls Tryd.prog 13 #[v] w (Gives w (.bool (mayV 64 l))) := by
  have H := Lib.hid (fun (W : World) (hg : w.grows W) => fmay_any 64 64 l v S W ⟨by decide, by decide⟩ (VsAt.grows h hg))
  clear h
  generalize mayV 64 l = b at *
  go_enter Tryd.func13, Tryd.ntmps13
  go_wp2_with ((go_at_call 30; (with_reducible refine (H.out _ (by repeat (with_reducible first | assumption | exact grA | apply grB | apply grC | apply grD | refine grE ?_ (by omega) _ | refine grF ?_ (by omega) _ _))).mono ?_); rintro e w1 ⟨rfl, x1, rfl⟩))
  go_ret
  exact ⟨rfl, (by repeat (with_reducible first | assumption | exact grA | apply grB | apply grC | apply grD | refine grE ?_ (by omega) _ | refine grF ?_ (by omega) _ _))⟩
theorem TkO.slAt {w : World} {B : Nat} {v : Value} {l : List Tk} {S : Nat → Prop} (h : TkO w B v l) (hS : ∀ g, B ≤ g → g < w.heap.size → S g) : SlAt w S 6 TkR v l := by
  have ho : OwnAt w B 53 6 TkR v l := ⟨l.map Tk.cs, by simp, fun i x cs p q => by
    rw [List.getElem?_map, p] at q
    simp only [Option.map_some, Option.some.injEq] at q
    subst q
    exact ⟨rfl, rfl, h.2 x (List.mem_of_getElem? p)⟩, by rw [← List.flatMap_def]; exact h.1⟩
  exact OwnAt.slAt ho (by omega) fun g hg => hS g (h.1.lt g hg).1 (h.1.lt g hg).2
/-- how vars.put ends -/
def PutAllPost (w : World) (p : List Tk × Int) (e : Ending) (w' : World) : Prop := ∃ r, e = .returned (.tuple #[r, .int .i64 p.2]) ∧ w.grows w' ∧ SlAt w' (fun g => w.heap.size ≤ g ∧ g < w'.heap.size) 6 TkR r p.1
set_option maxRecDepth 100000 in
set_option maxHeartbeats 4000000 in
theorem vput_any {w : World} {v : Value} {l : List Tk} {mp : Value} {k : Known} {Sk : Nat → Prop} (h : TksAt w v l) (hl : l.length ≤ 4194304) (hk : KAt w Sk mp k) (hS : ∀ g, Sk g → g < w.heap.size) :
    Calls Tryd.prog 24 #[v, mp] w (PutAllPost w (putAll k l)) := by
  have HV := Lib.hid (rValues_any h hl)
  have HK := Lib.hid hk
  have HS := Lib.hid hS
  have HN := Lib.hid (Nat.le_trans (parse_nodes l) hl)
  clear h hk hS
  go_enter Tryd.func24, Tryd.ntmps24
  go_upto_region 2 with (go_at_call 33; go_loud ((with_reducible refine HV.out.mono ?_); rintro r w1 ⟨v1, rfl, hg1, hv1⟩))
  have HV1 := Lib.hid hv1
  have HM1 := Lib.hid (fun (W : World) (hg : w1.grows W) => rMay_any (VsAt.grows hv1 hg))
  clear hv1
  cases hm : mayV 64 (parse l) with
  | false =>
    have HR := Lib.hid (show putAll k l = ([], 1) by unfold putAll; rw [if_pos hm])
    rw [hm] at HM1
    clear hm
    go_wp2_with ((go_at_call 34; (with_reducible refine (HM1.out _ (by repeat (with_reducible first | assumption | exact grA | apply grB | apply grC | apply grD | refine grE ?_ (by omega) _ | refine grF ?_ (by omega) _ _))).mono ?_); rintro e w1 ⟨rfl, x1, rfl⟩))
    go_ret2
    rw [HR.out]
    exact ⟨_, rfl, hg1.trans (by repeat (with_reducible first | assumption | exact grA | apply grB | apply grC | apply grD | refine grE ?_ (by omega) _ | refine grF ?_ (by omega) _ _)), SlAt_nil _ _ _ _⟩
  | true =>
    rw [hm] at HM1
    have HPUT : Hid (∀ W : World, w1.grows W → Calls Tryd.prog 42 #[mp, .slice none 0 0, v1] W (PutPost w W W.heap.size (.slice none 0 0) true (putP k 65 [] (parse l)))) := Lib.hid fun W hg => kput_any 64 w W W.heap.size mp k Sk _ [] _ v1 (parse l) ⟨hg1.trans hg, (hg1.trans hg).below.size, Nat.le_refl _, TkO.nil _ _, HK.out.grows (hg1.trans hg), (fun g hg2 => Nat.lt_of_lt_of_le (HS.out g hg2) (hg1.trans hg).below.size), VsAt.grows HV1.out hg, (fun g _ e => by cases e), hm, HN.out, by decide, by decide⟩
    cases hp : putP k 65 [] (parse l) with
    | none =>
      have HR := Lib.hid (show putAll k l = ([], 11) by unfold putAll; rw [if_neg (by rw [hm]; decide), hp])
      rw [hp] at HPUT
      clear hm hp
      go_wp2_with (first | (go_at_call 34; (with_reducible refine (HM1.out _ (by repeat (with_reducible first | assumption | exact grA | apply grB | apply grC | apply grD | refine grE ?_ (by omega) _ | refine grF ?_ (by omega) _ _))).mono ?_); rintro e w1 ⟨rfl, x1, rfl⟩) | (go_at_call 42; go_loud ((with_reducible refine (HPUT.out _ (by repeat (with_reducible first | assumption | exact grA | apply grB | apply grC | apply grD | refine grE ?_ (by omega) _ | refine grF ?_ (by omega) _ _))).mono ?_); rintro r w7 ⟨v7, ok7, rfl, p1, p2, p3⟩; (obtain rfl : ok7 = false := p3.1))))
      go_ret2
      rw [HR.out]
      exact ⟨_, rfl, p1, SlAt_nil _ _ _ _⟩
    | some o =>
      have hob := putP_bound hp (by simp)
      have HR := Lib.hid (show putAll k l = if mayV 64 (parse o) = true then (o, 0) else ([], 11) by unfold putAll; rw [if_neg (by rw [hm]; decide), hp])
      rw [hp] at HPUT
      clear hm hp
      go_upto_region 5 with (first | (go_at_call 34; (with_reducible refine (HM1.out _ (by repeat (with_reducible first | assumption | exact grA | apply grB | apply grC | apply grD | refine grE ?_ (by omega) _ | refine grF ?_ (by omega) _ _))).mono ?_); rintro e w1 ⟨rfl, x1, rfl⟩) | (go_at_call 42; go_loud ((with_reducible refine (HPUT.out _ (by repeat (with_reducible first | assumption | exact grA | apply grB | apply grC | apply grD | refine grE ?_ (by omega) _ | refine grF ?_ (by omega) _ _))).mono ?_); rintro r w7 ⟨v7, ok7, rfl, p1, p2, p3⟩; (obtain rfl : ok7 = true := p3.1); (obtain ⟨a7, c7, rfl⟩ := own_slice p3.2.1.1))))
      have HT7 := Lib.hid (show SlAt w7 (fun g => w.heap.size ≤ g ∧ g < w7.heap.size) 6 TkR (.slice a7 o.length c7) o from p3.2.1.slAt fun g h1 h2 => ⟨Nat.le_trans (hg1.trans (by repeat (with_reducible first | assumption | exact grA | apply grB | apply grC | apply grD | refine grE ?_ (by omega) _ | refine grF ?_ (by omega) _ _))).below.size h1, h2⟩)
      have HV2 := Lib.hid (rValues_any (HT7.out.keep (fun g hg _ => ⟨rfl, trivial⟩) fun _ _ _ h => h) (by omega))
      clear p2 p3
      cases hm2 : mayV 64 (parse o) with
      | true =>
        rw [hm2, if_pos rfl] at HR
        go_wp2_with (first | (go_at_call 33; go_loud ((with_reducible refine HV2.out.mono ?_); rintro r w9 ⟨v9, rfl, hg9, hv9⟩; (have HM9 := Lib.hid (rMay_any hv9)); (rw [hm2] at HM9))) | (go_at_call 34; (with_reducible refine (HM9.out).mono ?_); rintro e w1 ⟨rfl, x1, rfl⟩))
        go_ret2
        rw [HR.out]
        exact ⟨_, rfl, p1.trans (hg9.trans (by repeat (with_reducible first | assumption | exact grA | apply grB | apply grC | apply grD | refine grE ?_ (by omega) _ | refine grF ?_ (by omega) _ _))), HT7.out.keep (fun g hg hl => ⟨(hg9.trans (by repeat (with_reducible first | assumption | exact grA | apply grB | apply grC | apply grD | refine grE ?_ (by omega) _ | refine grF ?_ (by omega) _ _))).row_eq hl, hg.1, Nat.lt_of_lt_of_le hl (hg9.trans (by repeat (with_reducible first | assumption | exact grA | apply grB | apply grC | apply grD | refine grE ?_ (by omega) _ | refine grF ?_ (by omega) _ _))).below.size⟩) fun _ _ _ h => h⟩
      | false =>
        rw [hm2, if_neg (by decide)] at HR
        go_wp2_with (first | (go_at_call 33; go_loud ((with_reducible refine HV2.out.mono ?_); rintro r w9 ⟨v9, rfl, hg9, hv9⟩; (have HM9 := Lib.hid (rMay_any hv9)); (rw [hm2] at HM9))) | (go_at_call 34; (with_reducible refine (HM9.out).mono ?_); rintro e w1 ⟨rfl, x1, rfl⟩))
        go_ret2
        rw [HR.out]
        exact ⟨_, rfl, p1.trans (hg9.trans (by repeat (with_reducible first | assumption | exact grA | apply grB | apply grC | apply grD | refine grE ?_ (by omega) _ | refine grF ?_ (by omega) _ _))), SlAt_nil _ _ _ _⟩
end Go.Proofs.YthcaphoejplecaaDoor

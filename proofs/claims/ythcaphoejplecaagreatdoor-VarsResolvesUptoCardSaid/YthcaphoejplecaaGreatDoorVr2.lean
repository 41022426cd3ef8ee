/- Texts of the walk, one after the other; what each proves stands ahead of it. -/
import Derived.Test.YthcaphoejplecaaGreatDoorTk4
import Derived.Test.YthcaphoejplecaaGreatDoorVr1
set_option linter.unusedSimpArgs false
set_option linter.unusedVariables false
/- WALKS over jalousieref21.Same and the law VarsOrder. No condition but bounds and the table of kinds. -/
namespace Go
open Go.RowKit
theorem SlAt.take {α : Type} {w : World} {S : Nat → Prop} {n : Nat} {R : α → List Value → Prop} {a : Option Addr} {len cap : Nat} {l : List α} (h : SlAt w S n R (.slice a len cap) l) {k : Nat} (hk : k ≤ l.length) :
    SlAt w S n R (.slice a k cap) (l.take k) := by
  obtain ⟨a', cap', e, h2, h3, h4⟩ := h
  injection e with e1 e2 e3
  subst e1; subst e3
  have hl : (l.take k).length = k := by simp [hk]
  refine ⟨a, cap, by rw [hl], by omega, h3, ?_⟩
  rcases h4 with rfl | ⟨g, off, rfl, hS, h7⟩
  · exact .inl (by simp)
  · refine .inr ⟨g, off, rfl, hS, fun i x hx => h7 i x ?_⟩
    have hi := (List.getElem?_eq_some_iff.1 hx).1
    rw [List.getElem?_take] at hx
    split at hx
    · exact hx
    · cases hx
/-- names that differ -/
def DistC (o : List Cu) : Prop := o.Pairwise fun a b => a.n ≠ b.n
theorem findCu_rev {o : List Cu} (h : DistC o) : findCu o.reverse = findCu o := by
  funext n
  unfold findCu
  split
  · congr 1
    rw [List.reverse_reverse]
    have key : ∀ (l : List Cu), DistC l → l.find? (fun c => decide (c.n = n)) = l.reverse.find? (fun c => decide (c.n = n)) := fun l => by
      induction l with
      | nil => intro _; rfl
      | cons a l ih =>
        intro hd
        obtain ⟨h1, h2⟩ := List.pairwise_cons.1 hd
        rw [List.reverse_cons, List.find?_append, ← ih h2, List.find?_cons]
        by_cases e : a.n = n
        · have hnone : l.find? (fun c => decide (c.n = n)) = none := by
            rw [List.find?_eq_none]
            intro c hc
            simp only [decide_eq_true_iff]
            exact fun e2 => h1 c hc (e.trans e2.symm)
          rw [hnone]; simp [e]
        · simp [e]
    exact key o h
  · rfl
end Go
namespace Go.Proofs.YthcaphoejplecaaGreatDoor
open Go.RowKit Go.Maps
set_option maxRecDepth 100000 in
set_option maxHeartbeats 4000000 in
/-- the same customs are the same -/
theorem fcusame_any {w : World} {S S' : Nat → Prop} {u v : Value} {l : List Cu} (h : CusAt w S u l) (h' : CusAt w S' v l) : Calls Tryz.prog 5 #[u, v] w (Gives w (.bool true)) := by
  obtain ⟨a, cap, rfl, hcap, hcap2⟩ := SlAt.len h
  obtain ⟨a', cap', rfl, -, -⟩ := SlAt.len h'
  have H := Lib.hid h
  have H' := Lib.hid h'
  clear h h'
  go_enter Tryz.func5, Tryz.ntmps5
  go_wp2_with fail
  go_loopg [13] l.length (fun gn v13 wj => ∃ i : Nat, Hid (gn + i = l.length ∧ i ≤ l.length) ∧ v13 = .int .i64 i ∧ w.grows wj)
  case atStart => exact ⟨0, Lib.hid ⟨by simp, Nat.zero_le _⟩, by go_num, (by repeat (with_reducible first | assumption | exact grA | apply grB | apply grC | apply grD | refine grE ?_ (by omega) _ | refine grF ?_ (by omega) _ _))⟩
  case round =>
    obtain ⟨i, HQ, rfl, hgj⟩ := hrel
    obtain ⟨j1, j2⟩ := HQ.out
    by_cases hlt : i < l.length
    · have hgt : l[i]? = some l[i] := List.getElem?_eq_getElem hlt
      obtain ⟨g, off, cs, rfl, -, -, k1, hv⟩ := H.out.elt hgt
      obtain ⟨g', off', cs', rfl, -, -, k1', hv'⟩ := H'.out.elt hgt
      generalize l[i] = x at *
      obtain ⟨nm, ts⟩ := x
      obtain ⟨hnm, t, rfl, hts, htl⟩ := hv
      obtain ⟨hnm', t', rfl, hts', htl'⟩ := hv'
      obtain ⟨aT, cT, rfl, -, -⟩ := hts.len
      obtain ⟨aU, cU, rfl, -, -⟩ := hts'.len
      have HSM := Lib.hid (fun (W : World) (hg : wr.grows W) => fsame_any (hts.grows (hgj.trans hg) fun _ _ _ h => h) (hts'.grows (hgj.trans hg) fun _ _ _ h => h))
      have k2 := k1.grows hgj
      have z3 := lt_sz k2.lt
      have c0 := k2.cell (j := 0) rfl
      have c1 := k2.cell (j := 1) rfl
      rw [World.cell?_row, Nat.add_zero] at c0
      rw [World.cell?_row] at c1
      have k2' := k1'.grows hgj
      have z3' := lt_sz k2'.lt
      have c0' := k2'.cell (j := 0) rfl
      have c1' := k2'.cell (j := 1) rfl
      rw [World.cell?_row, Nat.add_zero] at c0'
      rw [World.cell?_row] at c1'
      have i1 : (0 : Int) ≤ (i : Int) := by omega
      have i2 : (i : Int) < (l.length : Int) := by omega
      have iw : IntKind.i64.wrap ((i : Int) + 1) = (i : Int) + 1 := by rw [IntKind.wrap_i64]; omega
      have hb : (nm.toList == nm.toList) = true := by simp
      clear k1 k1' k2 k2' hts hts' htl htl' hgt hlt
      go_upto_region 6 with fail
      refine wp_region_plus_lit (by kernel_rfl) (by kernel_rfl) ?_
      repeat (go_big_quiet_step ((go_at_call 12; (with_reducible exact Calls.plus_of (HSM.out _ (by repeat (with_reducible first | assumption | exact grA | apply grB | apply grC | apply grD | refine grE ?_ (by omega) _ | refine grF ?_ (by omega) _ _)))))))
      (refine wpQuiet_nil ?_; intro _ hw'; obtain ⟨xq, hw''⟩ := hw'; subst hw'')
      go_wp2_with fail
      go_roundg (l.length - (i + 1))
      case measure => have := HQ.out; omega
      case rel => exact ⟨i + 1, Lib.hid ⟨by omega, by omega⟩, by go_num, hgj.trans (by repeat (with_reducible first | assumption | exact grA | apply grB | apply grC | apply grD | refine grE ?_ (by omega) _ | refine grF ?_ (by omega) _ _))⟩
    · have i2 : ¬ (i : Int) < (l.length : Int) := by omega
      go_wp2_with fail
      go_ret
      exact ⟨rfl, hgj.trans (by repeat (with_reducible first | assumption | exact grA | apply grB | apply grC | apply grD | refine grE ?_ (by omega) _ | refine grF ?_ (by omega) _ _))⟩
end Go.Proofs.YthcaphoejplecaaGreatDoor

/- WALK over the law VarsDown. No condition but bounds and the table of kinds. -/
namespace Go
open Go.RowKit
theorem Sol.none {ab F : Known} (h : Sol (fun _ => none) ab F) : F = ab := by
  funext n; exact h.out n rfl
theorem findCu_nil : findCu [] = fun _ => none := by
  funext n; unfold findCu; split <;> rfl
/-- a list that tells a map is found as that map -/
theorem Tells.find {F : Known} {r : List Cu} (h : Tells F r) (n : ByteArray) : findCu r n = if customB n = true then F n else none := by
  unfold findCu
  by_cases hc : customB n = true
  · rw [if_pos hc, if_pos hc]
    cases hf : r.reverse.find? (fun c => decide (c.n = n)) with
    | none =>
      cases hF : F n with
      | none => rfl
      | some ts =>
        have hm := (h.mem ⟨n, ts⟩).2 hF
        have := List.find?_eq_none.1 hf ⟨n, ts⟩ (List.mem_reverse.2 hm)
        simp at this
    | some c =>
      have h1 := List.find?_some hf
      simp only [decide_eq_true_iff] at h1
      have h2 := (h.mem c).1 (List.mem_reverse.1 (List.mem_of_find?_eq_some hf))
      rw [h1] at h2
      rw [h2]; rfl
  · rw [if_neg hc, if_neg hc]
theorem findCu_cust {l : List Cu} {n : ByteArray} (h : findCu l n ≠ none) : customB n = true := by
  unfold findCu at h
  split at h
  · assumption
  · exact absurd rfl h
theorem findCu_has {l : List Cu} {c : Cu} (h : c ∈ l) (hc : customB c.n = true) : findCu l c.n ≠ none := by
  unfold findCu
  rw [if_pos hc]
  cases hf : l.reverse.find? (fun d => decide (d.n = c.n)) with
  | none =>
    have := List.find?_eq_none.1 hf c (List.mem_reverse.2 h)
    simp at this
  | some d => simp
theorem Tells.len {l r : List Cu} (h : Tells (findCu l) r) : r.length ≤ l.length := by
  have h1 := nodup_le (l := r.map Cu.n) (bs := l.map Cu.n) (by
    refine List.pairwise_map.2 (h.up.imp fun {a b} hab e => ?_)
    rw [e] at hab
    exact u8_irrefl _ hab) fun x hx => by
    obtain ⟨c, hc, rfl⟩ := List.mem_map.1 hx
    exact findCu_names (by rw [(h.mem c).1 hc]; simp)
  simpa using h1
theorem rise_next {r : List Cu} (h : RiseC r) {i : Nat} {a b : Cu} (ha : r[i]? = some a) (hb : r[i + 1]? = some b) : Op.bytesLess a.n.toList b.n.toList = true := by
  have h1 := (List.getElem?_eq_some_iff.1 ha).1
  have h2 := (List.getElem?_eq_some_iff.1 hb).1
  have h3 := List.pairwise_iff_getElem.1 h i (i + 1) h1 h2 (Nat.lt_succ_self i)
  rw [(List.getElem?_eq_some_iff.1 ha).2, (List.getElem?_eq_some_iff.1 hb).2] at h3
  rw [Proofs.bytesLess_eq, ByteArray.toList_eq, ByteArray.toList_eq]
  exact decide_eq_true h3
end Go
namespace Go.Proofs.YthcaphoejplecaaGreatDoor
open Go.RowKit Go.Maps
end Go.Proofs.YthcaphoejplecaaGreatDoor

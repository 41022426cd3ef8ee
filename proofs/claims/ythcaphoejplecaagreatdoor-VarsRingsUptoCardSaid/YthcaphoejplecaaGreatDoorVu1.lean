/- Texts of the walk, one after the other; what each proves stands ahead of it. -/
import Derived.Laws.Concat
import Derived.Test.YthcaphoejplecaaGreatDoorTk4
import Derived.Test.YthcaphoejplecaaGreatDoorTk5
import Derived.Test.YthcaphoejplecaaGreatDoorVr1
set_option linter.unusedSimpArgs false
set_option linter.unusedVariables false
/- WALKS over jalousieref21.Same and the law VarsOrder. No condition but bounds and the table of kinds. -/
namespace Go
open Go.RowKit
theorem SlAt.take {α : Type} {w : World} {S : Nat → Prop} {n : Nat} {R : α → List Value → Prop} {a : Option Addr} {len cap : Nat} {l : List α} (h : SlAt w S n R (.slice a len cap) l) {k : Nat} (hk : k ≤ l.length) :
    SlAt w S n R (.slice a k cap) (l.take k) := by
  obtain ⟨a', cap', e, h2, h3, h4⟩ := h
  injection e with e1 e2 e3
  subst e1; subst e3
  have hl : (l.take k).length = k := by simp [hk]
  refine ⟨a, cap, by rw [hl], by omega, h3, ?_⟩
  rcases h4 with rfl | ⟨g, off, rfl, hS, h7⟩
  · exact .inl (by simp)
  · refine .inr ⟨g, off, rfl, hS, fun i x hx => h7 i x ?_⟩
    have hi := (List.getElem?_eq_some_iff.1 hx).1
    rw [List.getElem?_take] at hx
    split at hx
    · exact hx
    · cases hx
/-- names that differ -/
def DistC (o : List Cu) : Prop := o.Pairwise fun a b => a.n ≠ b.n
theorem findCu_rev {o : List Cu} (h : DistC o) : findCu o.reverse = findCu o := by
  funext n
  unfold findCu
  split
  · congr 1
    rw [List.reverse_reverse]
    have key : ∀ (l : List Cu), DistC l → l.find? (fun c => decide (c.n = n)) = l.reverse.find? (fun c => decide (c.n = n)) := fun l => by
      induction l with
      | nil => intro _; rfl
      | cons a l ih =>
        intro hd
        obtain ⟨h1, h2⟩ := List.pairwise_cons.1 hd
        rw [List.reverse_cons, List.find?_append, ← ih h2, List.find?_cons]
        by_cases e : a.n = n
        · have hnone : l.find? (fun c => decide (c.n = n)) = none := by
            rw [List.find?_eq_none]
            intro c hc
            simp only [decide_eq_true_iff]
            exact fun e2 => h1 c hc (e.trans e2.symm)
          rw [hnone]; simp [e]
        · simp [e]
    exact key o h
  · rfl
end Go
namespace Go.Proofs.YthcaphoejplecaaGreatDoor
open Go.RowKit Go.Maps
set_option maxRecDepth 100000 in
set_option maxHeartbeats 4000000 in
/-- the same customs are the same -/
theorem fcusame_any {w : World} {S S' : Nat → Prop} {u v : Value} {l : List Cu} (h : CusAt w S u l) (h' : CusAt w S' v l) : Calls Tryz.prog 5 #[u, v] w (Gives w (.bool true)) := by
  obtain ⟨a, cap, rfl, hcap, hcap2⟩ := SlAt.len h
  obtain ⟨a', cap', rfl, -, -⟩ := SlAt.len h'
  have H := Lib.hid h
  have H' := Lib.hid h'
  clear h h'
  go_enter Tryz.func5, Tryz.ntmps5
  go_wp2_with fail
  go_loopg [13] l.length (fun gn v13 wj => ∃ i : Nat, Hid (gn + i = l.length ∧ i ≤ l.length) ∧ v13 = .int .i64 i ∧ w.grows wj)
  case atStart => exact ⟨0, Lib.hid ⟨by simp, Nat.zero_le _⟩, by go_num, (by repeat (with_reducible first | assumption | exact grA | apply grB | apply grC | apply grD | refine grE ?_ (by omega) _ | refine grF ?_ (by omega) _ _))⟩
  case round =>
    obtain ⟨i, HQ, rfl, hgj⟩ := hrel
    obtain ⟨j1, j2⟩ := HQ.out
    by_cases hlt : i < l.length
    · have hgt : l[i]? = some l[i] := List.getElem?_eq_getElem hlt
      obtain ⟨g, off, cs, rfl, -, -, k1, hv⟩ := H.out.elt hgt
      obtain ⟨g', off', cs', rfl, -, -, k1', hv'⟩ := H'.out.elt hgt
      generalize l[i] = x at *
      obtain ⟨nm, ts⟩ := x
      obtain ⟨hnm, t, rfl, hts, htl⟩ := hv
      obtain ⟨hnm', t', rfl, hts', htl'⟩ := hv'
      obtain ⟨aT, cT, rfl, -, -⟩ := hts.len
      obtain ⟨aU, cU, rfl, -, -⟩ := hts'.len
      have HSM := Lib.hid (fun (W : World) (hg : wr.grows W) => fsame_any (hts.grows (hgj.trans hg) fun _ _ _ h => h) (hts'.grows (hgj.trans hg) fun _ _ _ h => h))
      have k2 := k1.grows hgj
      have z3 := lt_sz k2.lt
      have c0 := k2.cell (j := 0) rfl
      have c1 := k2.cell (j := 1) rfl
      rw [World.cell?_row, Nat.add_zero] at c0
      rw [World.cell?_row] at c1
      have k2' := k1'.grows hgj
      have z3' := lt_sz k2'.lt
      have c0' := k2'.cell (j := 0) rfl
      have c1' := k2'.cell (j := 1) rfl
      rw [World.cell?_row, Nat.add_zero] at c0'
      rw [World.cell?_row] at c1'
      have i1 : (0 : Int) ≤ (i : Int) := by omega
      have i2 : (i : Int) < (l.length : Int) := by omega
      have iw : IntKind.i64.wrap ((i : Int) + 1) = (i : Int) + 1 := by rw [IntKind.wrap_i64]; omega
      have hb : (nm.toList == nm.toList) = true := by simp
      clear k1 k1' k2 k2' hts hts' htl htl' hgt hlt
      go_upto_region 6 with fail
      refine wp_region_plus_lit (by kernel_rfl) (by kernel_rfl) ?_
      repeat (go_big_quiet_step ((go_at_call 12; (with_reducible exact Calls.plus_of (HSM.out _ (by repeat (with_reducible first | assumption | exact grA | apply grB | apply grC | apply grD | refine grE ?_ (by omega) _ | refine grF ?_ (by omega) _ _)))))))
      (refine wpQuiet_nil ?_; intro _ hw'; obtain ⟨xq, hw''⟩ := hw'; subst hw'')
      go_wp2_with fail
      go_roundg (l.length - (i + 1))
      case measure => have := HQ.out; omega
      case rel => exact ⟨i + 1, Lib.hid ⟨by omega, by omega⟩, by go_num, hgj.trans (by repeat (with_reducible first | assumption | exact grA | apply grB | apply grC | apply grD | refine grE ?_ (by omega) _ | refine grF ?_ (by omega) _ _))⟩
    · have i2 : ¬ (i : Int) < (l.length : Int) := by omega
      go_wp2_with fail
      go_ret
      exact ⟨rfl, hgj.trans (by repeat (with_reducible first | assumption | exact grA | apply grB | apply grC | apply grD | refine grE ?_ (by omega) _ | refine grF ?_ (by omega) _ _))⟩
end Go.Proofs.YthcaphoejplecaaGreatDoor

/- WALK over the law VarsDown. No condition but bounds and the table of kinds. -/
namespace Go
open Go.RowKit
theorem Sol.none {ab F : Known} (h : Sol (fun _ => none) ab F) : F = ab := by
  funext n; exact h.out n rfl
theorem findCu_nil : findCu [] = fun _ => none := by
  funext n; unfold findCu; split <;> rfl
/-- a list that tells a map is found as that map -/
theorem Tells.find {F : Known} {r : List Cu} (h : Tells F r) (n : ByteArray) : findCu r n = if customB n = true then F n else none := by
  unfold findCu
  by_cases hc : customB n = true
  · rw [if_pos hc, if_pos hc]
    cases hf : r.reverse.find? (fun c => decide (c.n = n)) with
    | none =>
      cases hF : F n with
      | none => rfl
      | some ts =>
        have hm := (h.mem ⟨n, ts⟩).2 hF
        have := List.find?_eq_none.1 hf ⟨n, ts⟩ (List.mem_reverse.2 hm)
        simp at this
    | some c =>
      have h1 := List.find?_some hf
      simp only [decide_eq_true_iff] at h1
      have h2 := (h.mem c).1 (List.mem_reverse.1 (List.mem_of_find?_eq_some hf))
      rw [h1] at h2
      rw [h2]; rfl
  · rw [if_neg hc, if_neg hc]
theorem findCu_cust {l : List Cu} {n : ByteArray} (h : findCu l n ≠ none) : customB n = true := by
  unfold findCu at h
  split at h
  · assumption
  · exact absurd rfl h
theorem findCu_has {l : List Cu} {c : Cu} (h : c ∈ l) (hc : customB c.n = true) : findCu l c.n ≠ none := by
  unfold findCu
  rw [if_pos hc]
  cases hf : l.reverse.find? (fun d => decide (d.n = c.n)) with
  | none =>
    have := List.find?_eq_none.1 hf c (List.mem_reverse.2 h)
    simp at this
  | some d => simp
theorem Tells.len {l r : List Cu} (h : Tells (findCu l) r) : r.length ≤ l.length := by
  have h1 := nodup_le (l := r.map Cu.n) (bs := l.map Cu.n) (by
    refine List.pairwise_map.2 (h.up.imp fun {a b} hab e => ?_)
    rw [e] at hab
    exact u8_irrefl _ hab) fun x hx => by
    obtain ⟨c, hc, rfl⟩ := List.mem_map.1 hx
    exact findCu_names (by rw [(h.mem c).1 hc]; simp)
  simpa using h1
theorem rise_next {r : List Cu} (h : RiseC r) {i : Nat} {a b : Cu} (ha : r[i]? = some a) (hb : r[i + 1]? = some b) : Op.bytesLess a.n.toList b.n.toList = true := by
  have h1 := (List.getElem?_eq_some_iff.1 ha).1
  have h2 := (List.getElem?_eq_some_iff.1 hb).1
  have h3 := List.pairwise_iff_getElem.1 h i (i + 1) h1 h2 (Nat.lt_succ_self i)
  rw [(List.getElem?_eq_some_iff.1 ha).2, (List.getElem?_eq_some_iff.1 hb).2] at h3
  rw [Proofs.bytesLess_eq, ByteArray.toList_eq, ByteArray.toList_eq]
  exact decide_eq_true h3
end Go
namespace Go.Proofs.YthcaphoejplecaaGreatDoor
open Go.RowKit Go.Maps
end Go.Proofs.YthcaphoejplecaaGreatDoor

/- PLAIN: a ring beside what is declared makes no difference to the rest, and is not told. No condition; no program. -/
namespace Go
open Go.RowKit
theorem findCu_mem {l : List Cu} {n : ByteArray} {ts : List Tk} (h : findCu l n = some ts) : ∃ c ∈ l, c.n = n ∧ c.ts = ts := by
  unfold findCu at h
  split at h
  · obtain ⟨c, h1, h2⟩ := Option.map_eq_some_iff.1 h
    exact ⟨c, List.mem_reverse.1 (List.mem_of_find?_eq_some h1), by simpa using List.find?_some h1, h2⟩
  · cases h
theorem findCu_app {o : List Cu} {c : Cu} (hc : customB c.n = true) : findCu (o ++ [c]) = fun n => if n = c.n then some c.ts else findCu o n := by
  funext n
  unfold findCu
  by_cases e : n = c.n
  · subst e
    rw [if_pos hc, if_pos rfl]
    simp
  · rw [if_neg e, List.reverse_append]
    simp only [List.reverse_cons, List.reverse_nil, List.nil_append, List.singleton_append]
    rw [List.find?_cons_of_neg (by simpa using fun h => e h.symm)]
section
variable {own down : List Cu} {x y : ByteArray} {t1 t2 t5 : List Tk} (hx : customB x = true) (hy : customB y = true) (u1 : usesT t1 = [y]) (u2 : usesT t2 = [x])
  (hn : ∀ c ∈ own, c.n ≠ x ∧ c.n ≠ y) (hu : ∀ c ∈ own, ∀ u ∈ usesT c.ts, u ≠ x ∧ u ≠ y)
include hn in
theorem ring_own : findCu own x = none ∧ findCu own y = none := by
  constructor
  · cases h : findCu own x with
    | none => rfl
    | some t => obtain ⟨c, h1, h2, _⟩ := findCu_mem h; exact absurd h2 (hn c h1).1
  · cases h : findCu own y with
    | none => rfl
    | some t => obtain ⟨c, h1, h2, _⟩ := findCu_mem h; exact absurd h2 (hn c h1).2
include hx hy in
theorem ring_find : findCu (own ++ [⟨x, t1⟩, ⟨y, t2⟩]) = fun n => if n = y then some t2 else if n = x then some t1 else findCu own n := by
  rw [show own ++ [(⟨x, t1⟩ : Cu), ⟨y, t2⟩] = (own ++ [⟨x, t1⟩]) ++ [⟨y, t2⟩] by simp, findCu_app hy, findCu_app hx]
include hx hy u1 u2 in
theorem ring_self : Leans (findCu (own ++ [⟨x, t1⟩, ⟨y, t2⟩])) x x ∧ Leans (findCu (own ++ [⟨x, t1⟩, ⟨y, t2⟩])) y y := by
  rw [ring_find (own := own) (t1 := t1) (t2 := t2) hx hy]
  by_cases e : x = y
  · subst e
    have h : Lean1 (fun n => if n = x then some t2 else if n = x then some t1 else findCu own n) x x := ⟨t2, by simp, by rw [u2]; simp, by simp⟩
    exact ⟨.one h, .one h⟩
  · have h1 : Lean1 (fun n => if n = y then some t2 else if n = x then some t1 else findCu own n) x y := ⟨t1, by simp [e], by rw [u1]; simp, by simp⟩
    have h2 : Lean1 (fun n => if n = y then some t2 else if n = x then some t1 else findCu own n) y x := ⟨t2, by simp, by rw [u2]; simp, by simp [e]⟩
    exact ⟨.more (.one h1) h2, .more (.one h2) h1⟩
include hx hy hn in
theorem ring_up {a b : ByteArray} (h : Leans (findCu own) a b) : Leans (findCu (own ++ [⟨x, t1⟩, ⟨y, t2⟩])) a b := by
  rw [ring_find (own := own) (t1 := t1) (t2 := t2) hx hy]
  obtain ⟨hm1, hm2⟩ := ring_own hn
  have key : ∀ a b, Lean1 (findCu own) a b → Lean1 (fun n => if n = y then some t2 else if n = x then some t1 else findCu own n) a b := fun a b ⟨ts, q1, q2, q3⟩ => by
    refine ⟨ts, ?_, q2, ?_⟩
    · have e1 : a ≠ y := fun e => by rw [e, hm2] at q1; cases q1
      have e2 : a ≠ x := fun e => by rw [e, hm1] at q1; cases q1
      simp [e1, e2, q1]
    · show (if b = y then _ else _) ≠ none
      split
      · simp
      · split
        · simp
        · exact q3
  induction h with
  | one h => exact .one (key _ _ h)
  | more _ h ih => exact .more ih (key _ _ h)
include hx hy hu in
theorem ring_down {a b : ByteArray} (h : Leans (findCu (own ++ [⟨x, t1⟩, ⟨y, t2⟩])) a b) (hax : a ≠ x) (hay : a ≠ y) : Leans (findCu own) a b ∧ b ≠ x ∧ b ≠ y := by
  rw [ring_find (own := own) (t1 := t1) (t2 := t2) hx hy] at h
  have key : ∀ a b, a ≠ x → a ≠ y → Lean1 (fun n => if n = y then some t2 else if n = x then some t1 else findCu own n) a b → Lean1 (findCu own) a b ∧ b ≠ x ∧ b ≠ y := fun a b h1 h2 ⟨ts, q1, q2, q3⟩ => by
    simp only [if_neg h1, if_neg h2] at q1
    obtain ⟨c, p1, p2, rfl⟩ := findCu_mem q1
    have hb := hu c p1 b q2
    refine ⟨⟨_, q1, q2, ?_⟩, hb⟩
    simp only [if_neg hb.1, if_neg hb.2] at q3
    exact q3
  induction h with
  | one h => obtain ⟨p1, p2⟩ := key _ _ hax hay h; exact ⟨.one p1, p2⟩
  | more _ h ih =>
    obtain ⟨q1, q2, q3⟩ := ih
    obtain ⟨p1, p2⟩ := key _ _ q2 q3 h
    exact ⟨.more q1 p1, p2⟩
include hx hy u1 u2 hn hu in
/-- two custom properties more that lean on each other -/
theorem rings_sol {F G : Known} (hG : Sol (findCu (own ++ [⟨x, t1⟩, ⟨y, t2⟩])) (findCu (down ++ [⟨x, t5⟩])) G) (hF : Sol (findCu own) (findCu down) F) :
    G x = none ∧ G y = none ∧ ∀ n, n ≠ x → n ≠ y → G n = F n := by
  obtain ⟨hs1, hs2⟩ := ring_self (own := own) hx hy u1 u2
  obtain ⟨hm1, hm2⟩ := ring_own hn
  have hM := ring_find (own := own) (t1 := t1) (t2 := t2) hx hy
  have hD := findCu_app (o := down) (c := ⟨x, t5⟩) hx
  have hMe : ∀ n, n ≠ x → n ≠ y → findCu (own ++ [⟨x, t1⟩, ⟨y, t2⟩]) n = findCu own n := fun n h1 h2 => by rw [hM]; simp only [if_neg h1, if_neg h2]
  refine ⟨hG.ring x hs1, hG.ring y hs2, ?_⟩
  have hS : Sol (findCu own) (findCu down) (fun n => if n = x ∨ n = y then findCu down n else G n) := by
    refine ⟨fun n h => ?_, fun n h => ?_, fun n ts h hr => ?_⟩
    · by_cases e : n = x ∨ n = y
      · simp only [if_pos e]
      · simp only [if_neg e]
        have e1 : n ≠ x := fun h => e (.inl h)
        have e2 : n ≠ y := fun h => e (.inr h)
        rw [hG.out n (by rw [hMe n e1 e2]; exact h), hD]
        simp only [if_neg e1]
    · have h0 := h.src
      have e1 : n ≠ x := fun e => h0 (by rw [e]; exact hm1)
      have e2 : n ≠ y := fun e => h0 (by rw [e]; exact hm2)
      simp only [if_neg (show ¬ (n = x ∨ n = y) from fun h => h.elim e1 e2)]
      exact hG.ring n (ring_up hx hy hn h)
    · have e1 : n ≠ x := fun e => by rw [e, hm1] at h; cases h
      have e2 : n ≠ y := fun e => by rw [e, hm2] at h; cases h
      simp only [if_neg (show ¬ (n = x ∨ n = y) from fun h => h.elim e1 e2)]
      rw [hG.own n ts (by rw [hMe n e1 e2]; exact h) fun hr2 => hr (ring_down hx hy hu hr2 e1 e2).1]
      obtain ⟨c, p1, p2, rfl⟩ := findCu_mem h
      have hq : putAll G c.ts = putAll (fun n => if n = x ∨ n = y then findCu down n else G n) c.ts := putAll_congr fun u hu2 => by
        have h3 := hu c p1 u hu2
        exact (if_neg (show ¬ (u = x ∨ u = y) from fun h => h.elim h3.1 h3.2)).symm
      rw [hq]
  have e := hS.unique (names := own.map Cu.n) (fun n h => findCu_names h) hF
  intro n h1 h2
  have := congrFun e n
  simp only [if_neg (show ¬ (n = x ∨ n = y) from fun h => h.elim h1 h2)] at this
  exact this
end
theorem Tells.filterU {F : Known} {r : List Cu} (h : Tells F r) (p : ByteArray → Bool) : Tells (fun n => if p n = true then F n else none) (r.filter fun c => p c.n) := by
  refine ⟨h.up.filter _, fun c => ?_⟩
  rw [List.mem_filter, h.mem c]
  by_cases hp : p c.n = true
  · simp [hp]
  · simp [hp]
/-- what is told beside the ring -/
theorem rings_tells {F G : Known} {r s : List Cu} {x y : ByteArray} (hx : G x = none) (hy : G y = none) (h : ∀ n, n ≠ x → n ≠ y → G n = F n) (hG : Tells G r) (hF : Tells F s) : r = s.filter fun c => decide (c.n ≠ x) && decide (c.n ≠ y) := by
  have hf := hF.filterU fun n => decide (n ≠ x) && decide (n ≠ y)
  refine hG.uniq ?_
  have e : (fun n => if (decide (n ≠ x) && decide (n ≠ y)) = true then F n else none) = G := funext fun n => by
    by_cases h1 : n = x
    · simp [h1, hx]
    · by_cases h2 : n = y
      · simp [h2, hy]
      · simp [h1, h2, h n h1 h2]
  rw [← e]; exact hf
/-! the ring's texts -/
abbrev pre6 : ByteArray := ⟨#[45, 45, 114, 105, 110, 103]⟩
/-- small letters alone, of the first 20 -/
def cleanL (s : ByteArray) : List UInt8 := (s.data.toList.take 20).filter fun c => decide (97 ≤ c) && decide (c ≤ 122)
def cleanS (s : ByteArray) : ByteArray := ⟨(cleanL s).toArray⟩
def ringL (l : List UInt8) : List UInt8 := [45, 45, 114, 105, 110, 103] ++ l
def ringS (l : List UInt8) : ByteArray := ⟨(ringL l).toArray⟩
theorem ring_cust (l : List UInt8) : customB (ringS l) = true := by
  show (match (ringL l).toArray.toList with | 45 :: 45 :: _ :: _ => true | _ => false) = true
  rfl
theorem txt_runes (l : List UInt8) : txt (runes l) = ⟨l.toArray⟩ := by
  unfold txt bytesOf runes
  rw [List.map_map]
  congr 2
  conv => rhs; rw [← List.map_id l]
  exact List.map_congr_left fun c _ => by simp
theorem cleanL_mem {s : ByteArray} : ∀ c ∈ cleanL s, 97 ≤ c.toNat ∧ c.toNat ≤ 122 := fun c hc => by
  have := (List.mem_filter.1 hc).2
  simp only [Bool.and_eq_true, decide_eq_true_iff, UInt8.le_iff_toNat_le] at this
  exact this
theorem cleanL_len (s : ByteArray) : (cleanL s).length ≤ 20 := by
  unfold cleanL
  exact Nat.le_trans (List.length_filter_le _ _) (by simp; omega)
end Go

/- WALK over the law: clean, of any text. No condition but a text's size. -/
namespace Go
open Go.RowKit
theorem ba_app (a b : List UInt8) : (⟨a.toArray⟩ : ByteArray) ++ ⟨b.toArray⟩ = ⟨(a ++ b).toArray⟩ := by
  apply ByteArray.ext
  rw [ByteArray.data_append]
  simp
theorem utf_small (c : UInt8) (h : c.toNat < 128) : Utf8.encode (c.toNat : Int) = ⟨#[c]⟩ := by
  have hv : Utf8.valid (c.toNat : Int) = true := by unfold Utf8.valid; simp; omega
  unfold Utf8.encode
  simp only [hv, if_true, Int.toNat_natCast, h, if_true]
  show (⟨#[UInt8.ofNat c.toNat]⟩ : ByteArray) = ⟨#[c]⟩
  rw [UInt8.ofNat_toNat]
def pL (c : UInt8) : Bool := decide (97 ≤ c) && decide (c ≤ 122)
theorem pL_iff (c : UInt8) : pL c = true ↔ 97 ≤ c.toNat ∧ c.toNat ≤ 122 := by
  unfold pL
  simp only [Bool.and_eq_true, decide_eq_true_iff, UInt8.le_iff_toNat_le]
  rfl
def cleanT (s : ByteArray) (i : Nat) : ByteArray := ⟨((s.data.toList.take i).filter pL).toArray⟩
theorem cleanT_succ {s : ByteArray} {i : Nat} (h : i < s.size) : cleanT s (i + 1) = if pL (s[i]'h) = true then cleanT s i ++ ⟨#[s[i]'h]⟩ else cleanT s i := by
  have hg : s.data.toList[i]? = some (s[i]'h) := by
    rw [List.getElem?_eq_getElem (by simpa using h)]; rfl
  unfold cleanT
  rw [List.take_add_one, hg, List.filter_append]
  by_cases hp : pL (s[i]'h) = true
  · rw [if_pos hp, show (⟨#[s[i]'h]⟩ : ByteArray) = ⟨[s[i]'h].toArray⟩ from rfl, ba_app]
    congr 2
    simp [List.filter_cons, hp]
  · rw [if_neg hp]
    simp [List.filter_cons, hp]
theorem cleanT_size (s : ByteArray) (i : Nat) : (cleanT s i).size ≤ i := by
  show ((s.data.toList.take i).filter pL).toArray.size ≤ i
  simp only [List.size_toArray]
  exact Nat.le_trans (List.length_filter_le _ _) (List.length_take_le _ _)
theorem cleanT_end {s : ByteArray} {i : Nat} (h : s.size ≤ i ∨ i = 20) (hi : i ≤ 20) : cleanT s i = cleanS s := by
  unfold cleanT cleanS cleanL
  rcases h with h | h
  · rw [List.take_of_length_le (by simpa using h), List.take_of_length_le (by have : s.data.toList.length = s.size := rfl; omega)]
    rfl
  · rw [h]; rfl
end Go
namespace Go.Proofs.YthcaphoejplecaaGreatDoor
open Go.RowKit
set_option maxRecDepth 100000 in
set_option maxHeartbeats 4000000 in
theorem clean_any (s : ByteArray) (w : World) : Calls Tryz.prog 9 #[.string s] w (Gives w (.string (cleanS s))) := by
  go_enter Tryz.func9, Tryz.ntmps9
  go_wp2_with fail
  go_loopg [3, 4] 20 (fun gn v3 v4 wj => ∃ i : Nat, Hid (gn + i = 20 ∧ i ≤ 20) ∧ v3 = .string (cleanT s i) ∧ v4 = .int .i64 i ∧ w.grows wj)
  case atStart => exact ⟨0, Lib.hid ⟨rfl, by omega⟩, rfl, by go_num, (by repeat (with_reducible first | assumption | exact grA | apply grB | apply grC | apply grD | refine grE ?_ (by omega) _ | refine grF ?_ (by omega) _ _))⟩
  case round =>
    obtain ⟨i, HQ, rfl, rfl, hgj⟩ := hrel
    obtain ⟨j1, j2⟩ := HQ.out
    by_cases hl : i < s.size
    · by_cases h20 : i < 20
      · have i0 : (0 : Int) ≤ (i : Int) := by omega
        have i1 : (i : Int) < (s.size : Int) := by omega
        have i2 : (i : Int) < 20 := by omega
        have iw : IntKind.i64.wrap ((i : Int) + 1) = (i : Int) + 1 := by rw [IntKind.wrap_i64]; omega
        have d1 : decide ((i : Int) < (s.size : Int)) = true := by simpa using hl
        have d2 : decide ((i : Int) < 20) = true := by simpa using i2
        have HT := Lib.hid (cleanT_succ hl)
        have HP := Lib.hid (pL_iff (s[i]'hl))
        have HU := Lib.hid (utf_small (s[i]'hl))
        obtain ⟨n, hn⟩ : ∃ n, (s[i]'hl).toNat = n := ⟨_, rfl⟩
        have hn8 : n < 256 := by rw [← hn]; exact UInt8.toNat_lt _
        rw [hn] at HP HU
        by_cases h97 : 97 ≤ n
        · have a1 : (97 : Int) ≤ (n : Int) := by omega
          have a2 : decide ((97 : Int) ≤ (n : Int)) = true := decide_eq_true a1
          have a3 : decide (97 ≤ n) = true := by simpa using h97
          by_cases h122 : n ≤ 122
          · have b1 : (n : Int) ≤ 122 := by omega
            have b2 : decide ((n : Int) ≤ 122) = true := decide_eq_true b1
            have b3 : decide (n ≤ 122) = true := by simpa using h122
            have hu := HU.out (by omega)
            have ht := HT.out
            rw [if_pos (HP.out.2 ⟨h97, h122⟩)] at ht
            have hadd : ∀ W : World, (Op.stringOp .add (cleanT s i) ⟨#[s[i]'hl]⟩).run Tryz.prog W = .ok (.string (cleanT s (i + 1))) W := fun W => by
              rw [run_string_add_sum (P := Tryz.prog) W (cleanT s i) ⟨#[s[i]'hl]⟩ (by have := cleanT_size s i; show _ + 1 ≤ _; omega), ht]
            generalize (⟨#[s[i]'hl]⟩ : ByteArray) = E at hu ht hadd
            have HT2 := Lib.hid ht
            clear ht HT HP HU
            go_wp2_with fail
            go_roundg (19 - i)
            case measure => omega
            case rel => exact ⟨i + 1, Lib.hid ⟨by omega, by omega⟩, by rfl, by go_num, hgj.trans (by repeat (with_reducible first | assumption | exact grA | apply grB | apply grC | apply grD | refine grE ?_ (by omega) _ | refine grF ?_ (by omega) _ _))⟩
          · have b1 : ¬ (n : Int) ≤ 122 := by omega
            have b2 : decide ((n : Int) ≤ 122) = false := decide_eq_false b1
            have b3 : decide (n ≤ 122) = false := by simpa using h122
            have ht := HT.out
            rw [if_neg (fun h => h122 (HP.out.1 h).2)] at ht
            have HT2 := Lib.hid ht
            clear ht HT HP HU
            go_wp2_with fail
            go_roundg (19 - i)
            case measure => omega
            case rel => exact ⟨i + 1, Lib.hid ⟨by omega, by omega⟩, congrArg Value.string HT2.out.symm, by go_num, hgj.trans (by repeat (with_reducible first | assumption | exact grA | apply grB | apply grC | apply grD | refine grE ?_ (by omega) _ | refine grF ?_ (by omega) _ _))⟩
        · have a1 : ¬ (97 : Int) ≤ (n : Int) := by omega
          have a2 : decide ((97 : Int) ≤ (n : Int)) = false := decide_eq_false a1
          have a3 : decide (97 ≤ n) = false := by simpa using h97
          have ht := HT.out
          rw [if_neg (fun h => h97 (HP.out.1 h).1)] at ht
          have HT2 := Lib.hid ht
          clear ht HT HP HU
          go_wp2_with fail
          go_roundg (19 - i)
          case measure => omega
          case rel => exact ⟨i + 1, Lib.hid ⟨by omega, by omega⟩, congrArg Value.string HT2.out.symm, by go_num, hgj.trans (by repeat (with_reducible first | assumption | exact grA | apply grB | apply grC | apply grD | refine grE ?_ (by omega) _ | refine grF ?_ (by omega) _ _))⟩
      · have i1 : (i : Int) < (s.size : Int) := by omega
        have i2 : ¬ (i : Int) < 20 := by omega
        have d1 : decide ((i : Int) < (s.size : Int)) = true := by simpa using hl
        have d2 : decide ((i : Int) < 20) = false := by simpa using i2
        have HE := Lib.hid (cleanT_end (s := s) (i := i) (.inr (by omega)) j2)
        go_wp2_with fail
        go_ret
        exact ⟨congrArg (fun x => Ending.returned (Value.string x)) HE.out, hgj.trans (by repeat (with_reducible first | assumption | exact grA | apply grB | apply grC | apply grD | refine grE ?_ (by omega) _ | refine grF ?_ (by omega) _ _))⟩
    · have i1 : ¬ (i : Int) < (s.size : Int) := by omega
      have d1 : decide ((i : Int) < (s.size : Int)) = false := by simpa using i1
      have HE := Lib.hid (cleanT_end (s := s) (i := i) (.inl (by omega)) j2)
      go_wp2_with fail
      go_ret
      exact ⟨congrArg (fun x => Ending.returned (Value.string x)) HE.out, hgj.trans (by repeat (with_reducible first | assumption | exact grA | apply grB | apply grC | apply grD | refine grE ?_ (by omega) _ | refine grF ?_ (by omega) _ _))⟩
end Go.Proofs.YthcaphoejplecaaGreatDoor

/- WALKS and laws over the law: the texts of a ring and their tokens. No condition but the table of kinds. -/
namespace Go.Proofs.YthcaphoejplecaaGreatDoor
open Go.RowKit
def tvar : ByteArray := txt [118, 97, 114]
def tkR1 (y : ByteArray) : List Tk := [mkTk 2 (txt [118, 97, 114]), mkTk 1 y, mkTk 18 ⟨#[]⟩, mkTk 13 ⟨#[]⟩, numTk 1, mkTk 22 ⟨#[]⟩]
def tkR2 (x : ByteArray) : List Tk := [mkTk 1 (txt [99]), mkTk 13 ⟨#[]⟩, mkTk 2 (txt [118, 97, 114]), mkTk 1 x, mkTk 22 ⟨#[]⟩]
def tk5 : List Tk := [numTk 5]
theorem parse1 (y : ByteArray) : parse (tkR1 y) = [.mk (mkTk 2 (txt [118, 97, 114])) [.mk (mkTk 1 y) [], .mk (mkTk 18 ⟨#[]⟩) [], .mk (mkTk 13 ⟨#[]⟩) [], .mk (numTk 1) []]] := rfl
theorem parse2 (x : ByteArray) : parse (tkR2 x) = [.mk (mkTk 1 (txt [99])) [], .mk (mkTk 13 ⟨#[]⟩) [], .mk (mkTk 2 (txt [118, 97, 114])) [.mk (mkTk 1 x) []]] := rfl
theorem use_var (ks : List Vt) : useT (.mk (mkTk 2 (txt [118, 97, 114])) ks) = true := by
  show (decide ((2 : Int) = 2) && decide (lowB (txt [118, 97, 114]).data.toList = [118, 97, 114])) = true
  decide +kernel
theorem uses1 {y : ByteArray} (hy : customB y = true) : usesT (tkR1 y) = [y] := by
  have hn : namedT (.mk (mkTk 2 (txt [118, 97, 114])) [.mk (mkTk 1 y) [], .mk (mkTk 18 ⟨#[]⟩) [], .mk (mkTk 13 ⟨#[]⟩) [], .mk (numTk 1) []]) = some (y, [.mk (mkTk 18 ⟨#[]⟩) [], .mk (mkTk 13 ⟨#[]⟩) [], .mk (numTk 1) []]) := by
    unfold namedT
    have ht : trimT (Vt.mk (mkTk 2 (txt [118, 97, 114])) [.mk (mkTk 1 y) [], .mk (mkTk 18 ⟨#[]⟩) [], .mk (mkTk 13 ⟨#[]⟩) [], .mk (numTk 1) []]).kids = [.mk (mkTk 1 y) [], .mk (mkTk 18 ⟨#[]⟩) [], .mk (mkTk 13 ⟨#[]⟩) [], .mk (numTk 1) []] := rfl
    rw [ht]
    simp only []
    have hk : ¬ ((Vt.mk (mkTk 1 y) []).t.k ≠ 1 ∨ customB (Vt.mk (mkTk 1 y) []).t.s = false) := by
      rintro (h | h)
      · exact h rfl
      · rw [show customB (Vt.mk (mkTk 1 y) []).t.s = customB y from rfl, hy] at h; cases h
    rw [if_neg hk]
    rfl
  have hm : mayV 64 (parse (tkR1 y)) = true := rfl
  unfold usesT
  rw [if_pos hm, parse1, usesL_cons]
  unfold addU
  rw [if_pos (use_var _), hn]
  rfl
theorem uses2 {x : ByteArray} (hx : customB x = true) : usesT (tkR2 x) = [x] := by
  have hn : namedT (.mk (mkTk 2 (txt [118, 97, 114])) [.mk (mkTk 1 x) []]) = some (x, []) := by
    unfold namedT
    have ht : trimT (Vt.mk (mkTk 2 (txt [118, 97, 114])) [.mk (mkTk 1 x) []]).kids = [.mk (mkTk 1 x) []] := rfl
    rw [ht]
    simp only []
    have hk : ¬ ((Vt.mk (mkTk 1 x) []).t.k ≠ 1 ∨ customB (Vt.mk (mkTk 1 x) []).t.s = false) := by
      rintro (h | h)
      · exact h rfl
      · rw [show customB (Vt.mk (mkTk 1 x) []).t.s = customB x from rfl, hx] at h; cases h
    rw [if_neg hk]
    rfl
  have hm : mayV 64 (parse (tkR2 x)) = true := rfl
  unfold usesT
  rw [if_pos hm, parse2, usesL_cons, usesL_cons, usesL_cons]
  rw [show addU [] (.mk (mkTk 1 (txt [99])) []) = [] from rfl]
  rw [show usesL [] [] = [] by simp [usesL]]
  rw [show addU [] (.mk (mkTk 13 ⟨#[]⟩) []) = [] from rfl]
  rw [show usesL [] [] = [] by simp [usesL]]
  unfold addU
  rw [if_pos (use_var _), hn]
  rfl
theorem ring_let (l : List UInt8) (hl : ∀ c ∈ l, 97 ≤ c.toNat ∧ c.toNat ≤ 122) : ∀ x ∈ runes (ringL l), letC x = true := fun x hx => by
  obtain ⟨c, hc, rfl⟩ := List.mem_map.1 hx
  unfold ringL at hc
  rcases List.mem_append.1 hc with hc | hc
  · simp only [List.mem_cons, List.not_mem_nil, or_false] at hc
    rcases hc with rfl | rfl | rfl | rfl | rfl | rfl <;> decide
  · have := hl c hc
    unfold letC firC
    simp
    left; left; left; left
    omega
theorem ring_ok (l : List UInt8) (hl : ∀ c ∈ l, 97 ≤ c.toNat ∧ c.toNat ≤ 122) : OkL (ringL l) := fun c hc => by
  unfold ringL at hc
  rcases List.mem_append.1 hc with hc | hc
  · simp only [List.mem_cons, List.not_mem_nil, or_false] at hc
    rcases hc with rfl | rfl | rfl | rfl | rfl | rfl <;> (unfold OkC; decide)
  · have := hl c hc
    unfold OkC; omega
theorem runes_app (a b : List UInt8) : runes (a ++ b) = runes a ++ runes b := by simp [runes]
theorem lex1 (l : List UInt8) (hl : ∀ c ∈ l, 97 ≤ c.toNat ∧ c.toNat ≤ 122) : Lex2 (runes ([118, 97, 114, 40] ++ ringL l ++ [44, 32, 49, 41])) (tkR1 (ringS l)) := by
  rw [runes_app, runes_app]
  have h : Lex2 (runes (ringL l) ++ [44, 32, 49, 41]) (mkTk 1 (txt (runes (ringL l))) :: [mkTk 18 ⟨#[]⟩, mkTk 13 ⟨#[]⟩, numTk (49 - 48), mkTk 22 ⟨#[]⟩]) :=
    .ident (nm := runes (ringL l)) (l := [44, 32, 49, 41]) (by simp [runes, ringL]) (ring_let l hl) (.inr ⟨rfl, rfl⟩) (fun x h => by cases h; decide) (by decide) (.single .cm (.space (by decide) (.num (.inl ⟨rfl, rfl⟩) (.single .pc .nil))))
  rw [txt_runes] at h
  exact .func (nm := [118, 97, 114]) (l := runes (ringL l) ++ [44, 32, 49, 41]) (by decide) (by decide) (.inl ⟨by show (97 : Int) ≤ 118; decide, by show (118 : Int) ≤ 122; decide⟩) (by decide +kernel) h
theorem lex2 (l : List UInt8) (hl : ∀ c ∈ l, 97 ≤ c.toNat ∧ c.toNat ≤ 122) : Lex2 (runes ([99, 32, 118, 97, 114, 40] ++ ringL l ++ [41])) (tkR2 (ringS l)) := by
  rw [runes_app, runes_app]
  have h : Lex2 (runes (ringL l) ++ [41]) (mkTk 1 (txt (runes (ringL l))) :: [mkTk 22 ⟨#[]⟩]) :=
    .ident (nm := runes (ringL l)) (l := [41]) (by simp [runes, ringL]) (ring_let l hl) (.inr ⟨rfl, rfl⟩) (fun x h => by cases h; decide) (by decide) (.single .pc .nil)
  rw [txt_runes] at h
  exact .ident (nm := [99]) (l := 32 :: 118 :: 97 :: 114 :: 40 :: (runes (ringL l) ++ [41])) (by decide) (by decide) (.inl ⟨by show (97 : Int) ≤ 99; decide, by show (99 : Int) ≤ 122; decide⟩) (fun x h => by cases h; decide) (by intro h; simp at h)
    (.space (by intro h; simp at h) (.func (nm := [118, 97, 114]) (l := runes (ringL l) ++ [41]) (by decide) (by decide) (.inl ⟨by show (97 : Int) ≤ 118; decide, by show (118 : Int) ≤ 122; decide⟩) (by decide +kernel) h))
theorem lex5 : Lex2 (runes [53]) tk5 := .num (c := 53) (.inr ⟨rfl, rfl⟩) .nil
theorem ok1 (l : List UInt8) (hl : ∀ c ∈ l, 97 ≤ c.toNat ∧ c.toNat ≤ 122) : OkL ([118, 97, 114, 40] ++ ringL l ++ [44, 32, 49, 41]) := fun c hc => by
  rcases List.mem_append.1 hc with hc | hc
  · rcases List.mem_append.1 hc with hc | hc
    · simp only [List.mem_cons, List.not_mem_nil, or_false] at hc
      rcases hc with rfl | rfl | rfl | rfl <;> (unfold OkC; decide)
    · exact ring_ok l hl c hc
  · simp only [List.mem_cons, List.not_mem_nil, or_false] at hc
    rcases hc with rfl | rfl | rfl | rfl <;> (unfold OkC; decide)
theorem ok2 (l : List UInt8) (hl : ∀ c ∈ l, 97 ≤ c.toNat ∧ c.toNat ≤ 122) : OkL ([99, 32, 118, 97, 114, 40] ++ ringL l ++ [41]) := fun c hc => by
  rcases List.mem_append.1 hc with hc | hc
  · rcases List.mem_append.1 hc with hc | hc
    · simp only [List.mem_cons, List.not_mem_nil, or_false] at hc
      rcases hc with rfl | rfl | rfl | rfl | rfl | rfl <;> (unfold OkC; decide)
    · exact ring_ok l hl c hc
  · simp only [List.mem_cons, List.not_mem_nil, or_false] at hc
    rcases hc with rfl
    unfold OkC; decide
theorem ok5 : OkL [53] := fun c hc => by
  simp only [List.mem_cons, List.not_mem_nil, or_false] at hc
  rcases hc with rfl
  unfold OkC; decide
end Go.Proofs.YthcaphoejplecaaGreatDoor

/- WALK over the law VarsRings. No condition but bounds and the table of kinds. -/
namespace Go
open Go.RowKit
/-- none of these has the name, or uses it -/
def Apt (x y : ByteArray) (c : Cu) : Prop := (c.n ≠ x ∧ c.n ≠ y) ∧ ∀ u ∈ usesT c.ts, u ≠ x ∧ u ≠ y
end Go
namespace Go.Proofs.YthcaphoejplecaaGreatDoor
open Go.RowKit Go.Maps
theorem cus2 {W : World} {b : Nat} {x y : ByteArray} {v1 v2 : Value} {t1 t2 : List Tk} {e : TypeId} (hr : W.row b = some (.cells #[.string x, v1, .string y, v2] e)) (h1 : SlAt W (fun g => g < W.heap.size) 6 TkR v1 t1) (h2 : SlAt W (fun g => g < W.heap.size) 6 TkR v2 t2) (hx : x.size ≤ maxLen) (hy : y.size ≤ maxLen) (hl1 : t1.length ≤ 4194304) (hl2 : t2.length ≤ 4194304) :
    CusAt W (fun g => g < W.heap.size) (.slice (some ⟨b, 0, none⟩) 2 2) [⟨x, t1⟩, ⟨y, t2⟩] := by
  refine ⟨_, 2, rfl, Nat.le_refl _, by decide, .inr ⟨b, 0, rfl, (row_sz' hr).1, fun i z hz => ?_⟩⟩
  have hc : ∀ j u, (#[Value.string x, v1, .string y, v2] : Array Value)[j]? = some u → W.cell? ⟨b, j, none⟩ = some u := fun j u hj => by
    rw [World.cell?_row, hr]; exact hj
  match i, hz with
  | 0, hz =>
    simp only [List.getElem?_cons_zero, Option.some.injEq] at hz
    subst hz
    refine ⟨[.string x, v1], rfl, eltAt_of_range (by simp) (fun j u hj => ?_), hx, v1, rfl, h1, hl1⟩
    match j, hj with
    | 0, hj => exact hc 0 u hj
    | 1, hj => exact hc 1 u hj
    | j + 2, hj => simp at hj
  | 1, hz =>
    simp only [List.getElem?_cons_succ, List.getElem?_cons_zero, Option.some.injEq] at hz
    subst hz
    refine ⟨[.string y, v2], rfl, eltAt_of_range (by simp) (fun j u hj => ?_), hy, v2, rfl, h2, hl2⟩
    match j, hj with
    | 0, hj => exact hc 2 u hj
    | 1, hj => exact hc 3 u hj
    | j + 2, hj => simp at hj
  | i + 2, hz => simp at hz
theorem add_str {a b c : ByteArray} (h : a ++ b = c) (hs : a.size + b.size ≤ 1000) (W : World) : (Op.stringOp .add a b).run Tryz.prog W = .ok (.string c) W := by
  rw [run_string_add_sum (P := Tryz.prog) W a b (by omega), h]
theorem ring_size (l : List UInt8) (h : l.length ≤ 20) : (ringS l).size ≤ 26 := by
  show (ringL l).toArray.size ≤ 26
  simp [ringL]; omega
theorem own_emptyU {w : World} {g B n : Nat} {e : TypeId} (h : w.row g = some (.cells #[] e)) (hB : B ≤ g) : w.ownsRow B e n (.slice (some ⟨g, 0, none⟩) 0 0) 0 [] :=
  ⟨by simp, .inr ⟨g, 0, #[], rfl, hB, h, by omega, by simp, by simp, by simp⟩⟩
theorem own_cus2 {w w' W : World} {S S' : Nat → Prop} {B n : Nat} {v : Value} {l l' : List Cu} {css css' : List (List Value)} (h1 : css.length = l.length) (h2 : ∀ (i : Nat) (x : Cu) (cs : List Value), l[i]? = some x → css[i]? = some cs → cs.length = 2 ∧ CuR w S x cs)
    (h1' : css'.length = l'.length) (h2' : ∀ (i : Nat) (x : Cu) (cs : List Value), l'[i]? = some x → css'[i]? = some cs → cs.length = 2 ∧ CuR w' S' x cs) (hg : w.grows W) (hg' : w'.grows W) (hS : ∀ g, S g → g < w.heap.size) (hS' : ∀ g, S' g → g < w'.heap.size)
    (hn : n = l.length + l'.length) (ho : W.ownsRow B 30 2 v n (css.flatten ++ css'.flatten)) : CusAt W (fun g => g < W.heap.size) v (l ++ l') := by
  subst hn
  refine OwnAt.slAt (OwnAt.append (R := CuR W fun g => g < W.heap.size) h1 (fun i x cs a b => ?_) h1' (fun i x cs a b => ?_) (fun _ _ h => h) ho) (by omega) fun g hg => (ho.lt g hg).2
  · obtain ⟨q1, q2⟩ := h2 i x cs a b
    exact ⟨q1, q2.keep fun g hSg hl => ⟨hg.row_eq hl, Nat.lt_of_lt_of_le (hS g hSg) hg.below.size⟩⟩
  · obtain ⟨q1, q2⟩ := h2' i x cs a b
    exact ⟨q1, q2.keep fun g hSg hl => ⟨hg'.row_eq hl, Nat.lt_of_lt_of_le (hS' g hSg) hg'.below.size⟩⟩
theorem cus_sgl {w : World} {S : Nat → Prop} {x : ByteArray} {v : Value} {ts : List Tk} (hx : x.size ≤ maxLen) (hv : SlAt w S 6 TkR v ts) (hl : ts.length ≤ 4194304) : ∀ (i : Nat) (z : Cu) (cs : List Value), [(⟨x, ts⟩ : Cu)][i]? = some z → [[Value.string x, v]][i]? = some cs → cs.length = 2 ∧ CuR w S z cs := by
  intro i z cs h1 h2
  cases i with
  | succ i => simp at h1
  | zero =>
    simp at h1 h2
    subst h1; subst h2
    exact ⟨rfl, hx, v, rfl, hv, hl⟩
theorem grows_cell {w W : World} (h : w.grows W) {a : Addr} {u : Value} (hc : w.cell? a = some u) : W.cell? a = some u := by
  rw [World.cell?_of_block (h.row_eq (block_lt_of_cell hc))]; exact hc
theorem cells_fro {w W : World} {m : Nat} {A : Option Addr} {l : List Value} (h : m = 0 ∨ ∃ ad, A = some ad ∧ ∀ j u, l[j]? = some u → w.cell? (ad.add j) = some u) (hg : w.grows W) : m = 0 ∨ ∃ ad, A = some ad ∧ ∀ j u, l[j]? = some u → W.cell? (ad.add j) = some u := by
  rcases h with h | ⟨ad, h1, h2⟩
  · exact .inl h
  · exact .inr ⟨ad, h1, fun j u hj => grows_cell hg (h2 j u hj)⟩
theorem cus_one {w : World} {S : Nat → Prop} {l : List Cu} {css : List (List Value)} (h : ∀ (i : Nat) (x : Cu) (cs : List Value), l[i]? = some x → css[i]? = some cs → cs.length = 2 ∧ CuR w S x cs) (hl : css.length = l.length) : ∀ u ∈ css.flatten, u.oneCell' = true := fun u hu => by
  obtain ⟨cs, hcs, hu⟩ := List.mem_flatten.1 hu
  obtain ⟨k, hk⟩ := List.getElem?_of_mem hcs
  have hkl := (List.getElem?_eq_some_iff.1 hk).1
  obtain ⟨-, -, v, rfl, hv, -⟩ := h k _ cs (List.getElem?_eq_getElem (by omega)) hk
  obtain ⟨a, c, rfl, -, -⟩ := hv.len
  simp only [List.mem_cons, List.not_mem_nil, or_false] at hu
  rcases hu with rfl | rfl <;> rfl
theorem rings_args {w w3 w6 wB wC wF wE : World} {So Sd : Nat → Prop} {oo down : List Cu} {co cd cr : List (List Value)} {x y : ByteArray} {N n2 : Nat} {aB aE aF : Option Addr} {cB cE cF : Nat}
    (h1 : co.length = oo.length ∧ ∀ (i : Nat) (x : Cu) (cs : List Value), oo[i]? = some x → co[i]? = some cs → cs.length = 2 ∧ CuR w6 So x cs)
    (h2 : cr.length = [(⟨x, tkR1 y⟩ : Cu), ⟨y, tkR2 x⟩].length ∧ ∀ (i : Nat) (z : Cu) (cs : List Value), [(⟨x, tkR1 y⟩ : Cu), ⟨y, tkR2 x⟩][i]? = some z → cr[i]? = some cs → cs.length = 2 ∧ CuR w6 (fun g => g < w3.heap.size) z cs)
    (h3 : cd.length = down.length ∧ ∀ (i : Nat) (x : Cu) (cs : List Value), down[i]? = some x → cd[i]? = some cs → cs.length = 2 ∧ CuR w6 Sd x cs)
    (hg6B : w6.grows wB) (hgBE : wB.grows wE) (hSS : (∀ g, So g → g < w.heap.size) ∧ ∀ g, Sd g → g < w.heap.size) (hgw6 : w.grows w6) (hg36 : w3.grows w6) (hlo : oo.length = N) (hn2 : n2 = 2)
    (hOB : wB.ownsRow w6.heap.size 30 2 (.slice aB (N + n2) cB) (N + n2) (co.flatten ++ cr.flatten))
    (hOE : wE.ownsRow wB.heap.size 30 2 (.slice aE (down.length + 1) cE) (down.length + 1) (cd.flatten ++ [.string x, .slice aF tk5.length cF]))
    (hV : SlAt wF (fun g => wC.heap.size ≤ g ∧ g < wF.heap.size) 6 TkR (.slice aF tk5.length cF) tk5) (hFE : ∀ g, wC.heap.size ≤ g → g < wF.heap.size → wE.row g = wF.row g) (hFz : wF.heap.size ≤ wE.heap.size) (sx : x.size ≤ 26) (hl20 : N ≤ 20) (hdl : down.length ≤ 4194000) :
    ∀ V : World, wE.grows V → Calls Tryz.prog 6 #[.slice aB (N + n2) cB, .slice aE (down.length + 1) cE] V (ResPost V (findCu (oo ++ [⟨x, tkR1 y⟩, ⟨y, tkR2 x⟩])) (findCu (down ++ [⟨x, tk5⟩]))) := by
  intro V hgV
  have hcA := own_cus2 (l := oo) (l' := [⟨x, tkR1 y⟩, ⟨y, tkR2 x⟩]) h1.1 h1.2 h2.1 h2.2 hg6B hg6B (fun g h => Nat.lt_of_lt_of_le (hSS.1 g h) hgw6.below.size) (fun g h => Nat.lt_of_lt_of_le h hg36.below.size) (by rw [hlo, hn2]; rfl) hOB
  have hcB := own_cus2 (l := down) (l' := [⟨x, tk5⟩]) (css' := [[.string x, .slice aF tk5.length cF]]) (w' := wE) h3.1 h3.2 rfl (cus_sgl (Nat.le_trans sx (by decide)) (hV.keep (S' := fun g => g < wE.heap.size) (fun g hg hl => ⟨hFE g hg.1 hg.2, Nat.lt_of_lt_of_le hl hFz⟩) fun _ _ _ h => h) (show (1 : Nat) ≤ 4194304 by decide)) (hg6B.trans hgBE) World.grows.refl (fun g h => Nat.lt_of_lt_of_le (hSS.2 g h) hgw6.below.size) (fun g h => h) rfl (by simpa using hOE)
  exact resolve_any (CusAt.grows (CusAt.grows hcA hgBE) hgV) (by simp; omega) (CusAt.grows hcB hgV) (by simp; omega) (fun g h => Nat.lt_of_lt_of_le h (hgBE.trans hgV).below.size) (fun g h => Nat.lt_of_lt_of_le h hgV.below.size)
set_option maxRecDepth 100000 in
set_option maxHeartbeats 16000000 in
theorem rings_body {w : World} {aD a0 : Option Addr} {cD c0' N N0 : Nat} {oo down : List Cu} {So Sd : Nat → Prop} (ho : CusAt w So (.slice a0 N c0') oo) (hlo : oo.length = N) (hl20 : N ≤ 20) (hNc : N0 ≤ c0') (hor : N = N0 ∧ ¬ 20 < N0 ∨ N = 20 ∧ 20 < N0) (hd : CusAt w Sd (.slice aD down.length cD) down) (hdl : down.length ≤ 4194000) (hSo : ∀ g, So g → g < w.heap.size) (hSd : ∀ g, Sd g → g < w.heap.size) (hK : KindsAt w) (a b : ByteArray) :
    Calls Tryz.prog 4 #[.slice a0 N0 c0', .slice aD down.length cD, .string a, .string b] w (Gives w (.bool true)) := by
  have HLO := Lib.hid hlo
  have HOR := Lib.hid hor
  have HOW := Lib.hid ho
  clear ho hor hlo
  have HW := Lib.hid (fun (W : World) (hg : w.grows W) => awake_any (hK.grows hg))
  have HDW := Lib.hid hd
  have HSS := Lib.hid (And.intro hSo hSd)
  have HCA := Lib.hid (fun (W : World) => clean_any a W)
  have HCB := Lib.hid (fun (W : World) => clean_any b W)
  have la := cleanL_mem (s := a)
  have lb := cleanL_mem (s := b)
  have na := cleanL_len a
  have nb := cleanL_len b
  have sa := ring_size _ na
  have sb := ring_size _ nb
  have ca : (cleanS a).size ≤ 20 := by show (cleanL a).toArray.size ≤ 20; simpa using na
  have cb : (cleanS b).size ≤ 20 := by show (cleanL b).toArray.size ≤ 20; simpa using nb
  have hcx := ring_cust (cleanL a)
  have hcy := ring_cust (cleanL b)
  have ad1 : ∀ W : World, (Op.stringOp .add ⟨#[45, 45, 114, 105, 110, 103]⟩ (cleanS a)).run Tryz.prog W = .ok (.string (ringS (cleanL a))) W := add_str (ba_app [45, 45, 114, 105, 110, 103] (cleanL a)) (by show 6 + _ ≤ _; omega)
  have ad2 : ∀ W : World, (Op.stringOp .add ⟨#[45, 45, 114, 105, 110, 103]⟩ (cleanS b)).run Tryz.prog W = .ok (.string (ringS (cleanL b))) W := add_str (ba_app [45, 45, 114, 105, 110, 103] (cleanL b)) (by show 6 + _ ≤ _; omega)
  obtain ⟨q1, hq1⟩ : ∃ q : ByteArray, q = ⟨([118, 97, 114, 40] ++ ringL (cleanL b)).toArray⟩ := ⟨_, rfl⟩
  obtain ⟨s1, hs1⟩ : ∃ q : ByteArray, q = ⟨([118, 97, 114, 40] ++ ringL (cleanL b) ++ [44, 32, 49, 41]).toArray⟩ := ⟨_, rfl⟩
  obtain ⟨q2, hq2⟩ : ∃ q : ByteArray, q = ⟨([99, 32, 118, 97, 114, 40] ++ ringL (cleanL a)).toArray⟩ := ⟨_, rfl⟩
  obtain ⟨s2, hs2⟩ : ∃ q : ByteArray, q = ⟨([99, 32, 118, 97, 114, 40] ++ ringL (cleanL a) ++ [41]).toArray⟩ := ⟨_, rfl⟩
  have z1 : q1.size ≤ 30 := by rw [hq1]; show ([118, 97, 114, 40] ++ ringL (cleanL b)).toArray.size ≤ 30; simp [ringL]; omega
  have z2 : q2.size ≤ 32 := by rw [hq2]; show ([99, 32, 118, 97, 114, 40] ++ ringL (cleanL a)).toArray.size ≤ 32; simp [ringL]; omega
  have z3 : s1.size ≤ 1000 := by rw [hs1]; show ([118, 97, 114, 40] ++ ringL (cleanL b) ++ [44, 32, 49, 41]).toArray.size ≤ 1000; simp [ringL]; omega
  have z4 : s2.size ≤ 1000 := by rw [hs2]; show ([99, 32, 118, 97, 114, 40] ++ ringL (cleanL a) ++ [41]).toArray.size ≤ 1000; simp [ringL]; omega
  have ad3 : ∀ W : World, (Op.stringOp .add ⟨#[118, 97, 114, 40]⟩ (ringS (cleanL b))).run Tryz.prog W = .ok (.string q1) W := add_str (hq1 ▸ ba_app [118, 97, 114, 40] (ringL (cleanL b))) (by show 4 + _ ≤ _; omega)
  have ad4 : ∀ W : World, (Op.stringOp .add q1 ⟨#[44, 32, 49, 41]⟩).run Tryz.prog W = .ok (.string s1) W := add_str (by rw [hq1, hs1]; exact ba_app _ [44, 32, 49, 41]) (by show _ + 4 ≤ _; omega)
  have ad5 : ∀ W : World, (Op.stringOp .add ⟨#[99, 32, 118, 97, 114, 40]⟩ (ringS (cleanL a))).run Tryz.prog W = .ok (.string q2) W := add_str (hq2 ▸ ba_app [99, 32, 118, 97, 114, 40] (ringL (cleanL a))) (by show 6 + _ ≤ _; omega)
  have ad6 : ∀ W : World, (Op.stringOp .add q2 ⟨#[41]⟩).run Tryz.prog W = .ok (.string s2) W := add_str (by rw [hq2, hs2]; exact ba_app _ [41]) (by show _ + 1 ≤ _; omega)
  have HT1 := Lib.hid (fun (W : World) (hg : w.grows W) => toks2_any (s := s1) (ts := tkR1 (ringS (cleanL b))) z3 (by rw [hs1]; exact ok1 _ lb) (hK.grows hg) (by rw [hs1]; exact lex1 _ lb))
  have HT2 := Lib.hid (fun (W : World) (hg : w.grows W) => toks2_any (s := s2) (ts := tkR2 (ringS (cleanL a))) z4 (by rw [hs2]; exact ok2 _ la) (hK.grows hg) (by rw [hs2]; exact lex2 _ la))
  have HT5 := Lib.hid (fun (W : World) (hg : w.grows W) => toks2_any (s := ⟨#[53]⟩) (ts := tk5) (by decide) ok5 (hK.grows hg) lex5)
  have U1 := Lib.hid (uses1 hcy)
  have U2 := Lib.hid (uses2 hcx)
  have HCX := Lib.hid hcx
  have HCY := Lib.hid hcy
  clear hd hSo hSd hK la lb na nb hcx hcy hq1 hq2 hs1 hs2 z1 z2 z3 z4
  generalize ringS (cleanL a) = x at *
  generalize ringS (cleanL b) = y at *
  generalize cleanS a = pa at *
  generalize cleanS b = pb at *
  go_enter Tryz.func4, Tryz.ntmps4
  go_upto_if 25 with fail
  go_cut [0] (fun v0 wx => v0 = .slice a0 N c0' ∧ w = wx)
  case first =>
    rcases HOR.out with ⟨rfl, h4⟩ | ⟨rfl, h4⟩
    · have n1 : ¬ (20 : Int) < (N : Int) := by omega
      go_wp2_with fail
      go_meet
      exact ⟨rfl, rfl⟩
    · have n1 : (20 : Int) < (N0 : Int) := by omega
      have n2 : (20 : Int) ≤ (c0' : Int) := by omega
      have n3 : 20 ≤ c0' := by omega
      go_wp2_with fail
      go_meet
      exact ⟨rfl, rfl⟩
  case rest =>
    obtain ⟨rfl, rfl⟩ := hcut
    have hlo := HLO.out
    go_upto_region 5 with (first | (go_at_call 9; (with_reducible refine (HCA.out _).mono ?_); rintro e w1 ⟨rfl, x1, rfl⟩) | (go_at_call 9; (with_reducible refine (HCB.out _).mono ?_); rintro e w1 ⟨rfl, x1, rfl⟩) | (go_at_call 10; go_loud ((with_reducible refine (HT2.out _ (hg01.trans (by repeat (with_reducible first | assumption | exact grA | apply grB | apply grC | apply grD | refine grE ?_ (by omega) _ | refine grF ?_ (by omega) _ _)))).mono ?_); rintro r w2 ⟨v2, rfl, hg2, hv2⟩; (have hg12 : w1.grows w2 := World.grows.trans (by repeat (with_reducible first | assumption | exact grA | apply grB | apply grC | apply grD | refine grE ?_ (by omega) _ | refine grF ?_ (by omega) _ _)) hg2); (obtain ⟨a2, c2, rfl⟩ := own_slice hv2.1); (have HV2 := Lib.hid hv2); clear hv2 hg2)) | (go_at_call 10; go_loud ((with_reducible refine (HT1.out _ (by repeat (with_reducible first | assumption | exact grA | apply grB | apply grC | apply grD | refine grE ?_ (by omega) _ | refine grF ?_ (by omega) _ _))).mono ?_); rintro r w1 ⟨v1, rfl, hg1, hv1⟩; (have hg01 : w.grows w1 := World.grows.trans (by repeat (with_reducible first | assumption | exact grA | apply grB | apply grC | apply grD | refine grE ?_ (by omega) _ | refine grF ?_ (by omega) _ _)) hg1); (obtain ⟨a1, c1, rfl⟩ := own_slice hv1.1); (have HV1 := Lib.hid hv1); clear hv1 hg1)))
    refine abs_rows (w := w2) (G := fun W => Code.wp _ _ _ _ W) (by repeat (with_reducible first | assumption | exact grA | apply grB | apply grC | apply grD | refine grE ?_ (by omega) _ | refine grF ?_ (by omega) _ _)) [(w2.heap.size, .cells #[.string x, .slice a1 (tkR1 y).length c1, .string y, .slice a2 (tkR2 x).length c2] 30)] (by simp [go_sem, *]) ?_
    intro w3 gw3 hl
    simp only [List.forall_mem_cons, List.not_mem_nil, false_implies, implies_true, and_true] at hl
    have xr := hl
    have zxr := row_sz' xr
    have hg13 := hg12.trans gw3
    have hgw3 := hg01.trans hg13
    have HRG := Lib.hid (cus2 xr ((TkO.slAt HV1.out fun g _ h => Nat.lt_of_lt_of_le h hg13.below.size).keep (S' := fun g => g < w3.heap.size) (fun g hg hl => ⟨hg13.row_eq hl, hg⟩) fun _ _ _ h => h) ((TkO.slAt HV2.out fun g _ h => Nat.lt_of_lt_of_le h gw3.below.size).keep (S' := fun g => g < w3.heap.size) (fun g hg hl => ⟨gw3.row_eq hl, hg⟩) fun _ _ _ h => h) (Nat.le_trans sa (by decide)) (Nat.le_trans sb (by decide)) (show (6 : Nat) ≤ 4194304 by decide) (show (5 : Nat) ≤ 4194304 by decide))
    generalize w2.heap.size = bR at *
    generalize hsv : Value.slice (some ⟨bR, 0, none⟩) 2 2 = sv at *
    obtain ⟨n2, rfl, hn2⟩ : ∃ n2, sv = Value.slice (some ⟨bR, 0, none⟩) n2 2 ∧ n2 = 2 := ⟨2, hsv.symm, rfl⟩
    have HN2 := Lib.hid hn2
    have hn2l : n2 ≤ 2 := by omega
    clear hsv hn2
    go_wp2_with fail
    go_loopg [49] N (fun gn v49 wj => ∃ i : Nat, Hid (gn + i = N ∧ i ≤ N) ∧ v49 = .int .i64 i ∧ w3.grows wj ∧ Hid (∀ j c, j < i → oo[j]? = some c → Apt x y c))
    case atStart => exact ⟨0, Lib.hid ⟨by simp, Nat.zero_le _⟩, by go_num, (by repeat (with_reducible first | assumption | exact grA | apply grB | apply grC | apply grD | refine grE ?_ (by omega) _ | refine grF ?_ (by omega) _ _)), Lib.hid fun j c h => by omega⟩
    case round =>
      obtain ⟨i, HQ, rfl, hgj, HAP⟩ := hrel
      obtain ⟨j1, j2⟩ := HQ.out
      have hgwj := hgw3.trans hgj
      by_cases hlt : i < N
      · have i1 : (0 : Int) ≤ (i : Int) := by omega
        have i2 : (i : Int) < (N : Int) := by omega
        have iw : IntKind.i64.wrap ((i : Int) + 1) = (i : Int) + 1 := by rw [IntKind.wrap_i64]; omega
        obtain ⟨z, hgt⟩ : ∃ z, oo[i]? = some z := ⟨_, List.getElem?_eq_getElem (by omega)⟩
        obtain ⟨g, off, cs, rfl, -, -, k1, hv⟩ := HOW.out.elt hgt
        obtain ⟨nm, ts⟩ := z
        obtain ⟨hnm, t, rfl, hts, htl⟩ := hv
        obtain ⟨aT, cT, rfl, -, -⟩ := hts.len
        have HGT := Lib.hid hgt
        have HUS := Lib.hid (fun (W : World) (hg : w.grows W) => fUses_any (w := W) (hts.keep (fun g _ hl => ⟨hg.row_eq hl, trivial⟩) fun _ _ _ h => h) htl)
        have HUL := Lib.hid (Nat.le_trans (usesT_len (l := ts)) htl)
        have k2 := k1.grows hgwj
        have z3 := lt_sz k2.lt
        obtain ⟨u1, u2⟩ := k2
        replace u1 : segOk (off + i * 2) 2 (wr.row g) = true := u1
        replace u2 : segV (off + i * 2) 2 (wr.row g) = .agg #[.string nm, .slice aT ts.length cT] := u2
        clear hgt hts htl k1
        go_upto_region 8 with fail
        refine abs_rows (w := wr) (G := fun W => Code.wp _ _ _ _ W) (by repeat (with_reducible first | assumption | exact grA | apply grB | apply grC | apply grD | refine grE ?_ (by omega) _ | refine grF ?_ (by omega) _ _)) [(wr.heap.size, .cells #[.string nm, .slice aT ts.length cT] 30)] (by simp [go_sem, *]) ?_
        intro w4 gw4 hl
        simp only [List.forall_mem_cons, List.not_mem_nil, false_implies, implies_true, and_true] at hl
        have x9 := hl
        have zx9 := row_sz' x9
        have hg34 := hgj.trans gw4
        have hgw4 := hgw3.trans hg34
        clear u1 u2 z3
        generalize wr.heap.size = b9 at *
        by_cases e1 : nm = x
        · have b1 : (nm.toList == x.toList) = true := by rw [e1]; simp
          have b2 : nm.toList = x.toList := by rw [e1]
          clear e1
          go_wp2_with ((go_at_call 8; (with_reducible refine (HW.out _ (hgw4.trans (by repeat (with_reducible first | assumption | exact grA | apply grB | apply grC | apply grD | refine grE ?_ (by omega) _ | refine grF ?_ (by omega) _ _)))).mono ?_); rintro e w1 ⟨rfl, x1, rfl⟩))
          all_goals
            go_ret
            exact ⟨rfl, hgw4.trans (by repeat (with_reducible first | assumption | exact grA | apply grB | apply grC | apply grD | refine grE ?_ (by omega) _ | refine grF ?_ (by omega) _ _))⟩
        · have b1 : (nm.toList == x.toList) = false := by rw [beq_eq_false_iff_ne]; exact fun e => e1 (ba_toList_inj e)
          have b1' : ¬ nm.toList = x.toList := fun e => e1 (ba_toList_inj e)
          by_cases e2 : nm = y
          · have b2 : (nm.toList == y.toList) = true := by rw [e2]; simp
            have b2' : nm.toList = y.toList := by rw [e2]
            clear e1 e2
            go_wp2_with ((go_at_call 8; (with_reducible refine (HW.out _ (hgw4.trans (by repeat (with_reducible first | assumption | exact grA | apply grB | apply grC | apply grD | refine grE ?_ (by omega) _ | refine grF ?_ (by omega) _ _)))).mono ?_); rintro e w1 ⟨rfl, x1, rfl⟩))
            all_goals
              go_ret
              exact ⟨rfl, hgw4.trans (by repeat (with_reducible first | assumption | exact grA | apply grB | apply grC | apply grD | refine grE ?_ (by omega) _ | refine grF ?_ (by omega) _ _))⟩
          · have b2 : (nm.toList == y.toList) = false := by rw [beq_eq_false_iff_ne]; exact fun e => e2 (ba_toList_inj e)
            have b2' : ¬ nm.toList = y.toList := fun e => e2 (ba_toList_inj e)
            have HNE := Lib.hid (And.intro e1 e2)
            clear e1 e2
            obtain ⟨us, hus⟩ : ∃ us, us = usesT ts := ⟨_, rfl⟩
            rw [← hus] at HUS HUL
            have HUE := Lib.hid hus
            have hul := HUL.out
            clear hus
            go_wp2_with (go_at_call 11; go_loud ((with_reducible refine (HUS.out _ (hgw4.trans (by repeat (with_reducible first | assumption | exact grA | apply grB | apply grC | apply grD | refine grE ?_ (by omega) _ | refine grF ?_ (by omega) _ _)))).mono ?_); rintro r w5 ⟨v5, rfl, hg5, hn5⟩; (obtain ⟨a5, c5, rfl⟩ := own_slice hn5); (have hg45 : w4.grows w5 := World.grows.trans (by repeat (with_reducible first | assumption | exact grA | apply grB | apply grC | apply grD | refine grE ?_ (by omega) _ | refine grF ?_ (by omega) _ _)) hg5); (have HXC := Lib.hid (NmO.cell hn5)); clear hn5 hg5))
            have hgw5 := hgw4.trans hg45
            have hg35 := hg34.trans hg45
            go_loopg [68] us.length (fun gn v68 wj => ∃ q : Nat, Hid (gn + q = us.length ∧ q ≤ us.length) ∧ v68 = .int .i64 q ∧ w5.grows wj ∧ Hid (∀ j u, j < q → us[j]? = some u → u ≠ x ∧ u ≠ y))
            case atStart => exact ⟨0, Lib.hid ⟨by simp, Nat.zero_le _⟩, by go_num, (by repeat (with_reducible first | assumption | exact grA | apply grB | apply grC | apply grD | refine grE ?_ (by omega) _ | refine grF ?_ (by omega) _ _)), Lib.hid fun j u h => by omega⟩
            case round =>
              obtain ⟨q, HP, rfl, hgq, HUN⟩ := hrel
              obtain ⟨p1, p2⟩ := HP.out
              by_cases hq : q < us.length
              · have n1 : (0 : Int) ≤ (q : Int) := by omega
                have n2 : (q : Int) < (us.length : Int) := by omega
                have nw : IntKind.i64.wrap ((q : Int) + 1) = (q : Int) + 1 := by rw [IntKind.wrap_i64]; omega
                obtain ⟨u, hu⟩ : ∃ u, us[q]? = some u := ⟨_, List.getElem?_eq_getElem hq⟩
                rcases HXC.out with h0 | ⟨gX, cX, e, hgl, hcell⟩
                · rw [h0] at hq; simp at hq
                injection e with e1 e2 e3
                subst e1
                subst e3
                have cc := hcell q u hu
                rw [← hgq.row_eq hgl] at cc
                have zX := lt_sz (Nat.lt_of_lt_of_le hgl hgq.below.size)
                have HUU := Lib.hid hu
                clear hcell hu e2
                by_cases e1 : u = x
                · have b3 : (u.toList == x.toList) = true := by rw [e1]; simp
                  have b3' : u.toList = x.toList := by rw [e1]
                  have hgwq := hgw5.trans hgq
                  clear e1
                  go_wp2_with ((go_at_call 8; (with_reducible refine (HW.out _ (hgwq.trans (by repeat (with_reducible first | assumption | exact grA | apply grB | apply grC | apply grD | refine grE ?_ (by omega) _ | refine grF ?_ (by omega) _ _)))).mono ?_); rintro e w1 ⟨rfl, x1, rfl⟩))
                  all_goals
                    go_ret
                    exact ⟨rfl, hgwq.trans (by repeat (with_reducible first | assumption | exact grA | apply grB | apply grC | apply grD | refine grE ?_ (by omega) _ | refine grF ?_ (by omega) _ _))⟩
                · have b3 : (u.toList == x.toList) = false := by rw [beq_eq_false_iff_ne]; exact fun e => e1 (ba_toList_inj e)
                  have b3' : ¬ u.toList = x.toList := fun e => e1 (ba_toList_inj e)
                  by_cases e2 : u = y
                  · have b4 : (u.toList == y.toList) = true := by rw [e2]; simp
                    have b4' : u.toList = y.toList := by rw [e2]
                    have hgwq := hgw5.trans hgq
                    clear e1 e2
                    go_wp2_with ((go_at_call 8; (with_reducible refine (HW.out _ (hgwq.trans (by repeat (with_reducible first | assumption | exact grA | apply grB | apply grC | apply grD | refine grE ?_ (by omega) _ | refine grF ?_ (by omega) _ _)))).mono ?_); rintro e w1 ⟨rfl, x1, rfl⟩))
                    all_goals
                      go_ret
                      exact ⟨rfl, hgwq.trans (by repeat (with_reducible first | assumption | exact grA | apply grB | apply grC | apply grD | refine grE ?_ (by omega) _ | refine grF ?_ (by omega) _ _))⟩
                  · have b4 : (u.toList == y.toList) = false := by rw [beq_eq_false_iff_ne]; exact fun e => e2 (ba_toList_inj e)
                    have b4' : ¬ u.toList = y.toList := fun e => e2 (ba_toList_inj e)
                    have HE := Lib.hid (And.intro e1 e2)
                    clear e1 e2
                    go_wp2_with fail
                    go_roundg (us.length - (q + 1))
                    case measure => omega
                    case rel => exact ⟨q + 1, Lib.hid ⟨by omega, by omega⟩, by go_num, hgq.trans (by repeat (with_reducible first | assumption | exact grA | apply grB | apply grC | apply grD | refine grE ?_ (by omega) _ | refine grF ?_ (by omega) _ _)), Lib.hid fun j u2 h1 h2 => by
                      by_cases ej : j = q
                      · subst ej; rw [HUU.out] at h2; injection h2 with h2; rw [← h2]; exact HE.out
                      · exact HUN.out j u2 (by omega) h2⟩
              · have n2 : ¬ (q : Int) < (us.length : Int) := by omega
                go_wp2_with fail
                go_roundg (N - (i + 1))
                case measure => omega
                case rel => exact ⟨i + 1, Lib.hid ⟨by omega, by omega⟩, by go_num, (hg35.trans hgq).trans (by repeat (with_reducible first | assumption | exact grA | apply grB | apply grC | apply grD | refine grE ?_ (by omega) _ | refine grF ?_ (by omega) _ _)), Lib.hid fun j c h1 h2 => by
                  by_cases ej : j = i
                  · subst ej
                    rw [HGT.out] at h2; injection h2 with h2; rw [← h2]
                    refine ⟨HNE.out, fun u hu => ?_⟩
                    simp only at hu
                    rw [← HUE.out] at hu
                    obtain ⟨k, hk⟩ := List.getElem?_of_mem hu
                    have := (List.getElem?_eq_some_iff.1 hk).1
                    exact HUN.out k u (by omega) hk
                  · exact HAP.out j c (by omega) h2⟩
      · have i2 : ¬ (i : Int) < (N : Int) := by omega
        obtain ⟨w5, hw5⟩ : ∃ w5, w5 = wr := ⟨_, rfl⟩
        subst hw5
        have HAL := Lib.hid (show ∀ c ∈ oo, Apt x y c from fun c hc => by
          obtain ⟨k, hk⟩ := List.getElem?_of_mem hc
          have := (List.getElem?_eq_some_iff.1 hk).1
          exact HAP.out k c (by omega) hk)
        have HR1 := Lib.hid (fun (W : World) (hg : w.grows W) => resolve_any (w := W) (CusAt.grows HOW.out hg) (by omega) (CusAt.grows HDW.out hg) (by omega) (fun g h => Nat.lt_of_lt_of_le (HSS.out.1 g h) hg.below.size) (fun g h => Nat.lt_of_lt_of_le (HSS.out.2 g h) hg.below.size))
        have hg35 := hgj
        clear HAP HQ j1 j2 i2 hgj xr zxr
        go_upto_region 18 with (go_at_call 6; go_loud ((with_reducible refine (HR1.out _ (hgwj.trans (by repeat (with_reducible first | assumption | exact grA | apply grB | apply grC | apply grD | refine grE ?_ (by omega) _ | refine grF ?_ (by omega) _ _)))).mono ?_); rintro r w6 ⟨v6, r1, rfl, hg6, hi6, hl6, hc6⟩; (have hg56 : w5.grows w6 := World.grows.trans (by repeat (with_reducible first | assumption | exact grA | apply grB | apply grC | apply grD | refine grE ?_ (by omega) _ | refine grF ?_ (by omega) _ _)) hg6); (obtain ⟨a6, c6, rfl, -, -⟩ := hc6.len); (have HC6 := Lib.hid hc6); (have HI6 := Lib.hid hi6); clear hc6 hi6 hg6))
        have hgw6 := hgwj.trans hg56
        have hg36 := hg35.trans hg56
        have HOW6 := CusAt.grows HOW.out hgw6
        have HDW6 := CusAt.grows HDW.out hgw6
        have HRG6 := CusAt.grows HRG.out hg36
        obtain ⟨-, co, o1, o2, o3, o4⟩ := SlAt.cells (by omega) HOW6
        obtain ⟨-, cd, d1, d2, d3, d4⟩ := SlAt.cells (by omega) HDW6
        obtain ⟨-, cr, r1', r2', r3, r4⟩ := SlAt.cells (by omega) HRG6
        rw [hlo] at o3 o4
        have HO4 := Lib.hid o4
        have HD4 := Lib.hid d4
        have HR4 := Lib.hid (show n2 = 0 ∨ ∃ ad, some (⟨bR, 0, none⟩ : Addr) = some ad ∧ ∀ j u, cr.flatten[j]? = some u → w6.cell? (ad.add j) = some u by rw [HN2.out]; exact r4)
        have r3' : cr.flatten.length = n2 * 2 := by rw [HN2.out]; exact r3
        have HO1 := Lib.hid (And.intro o1 o2)
        have HD1 := Lib.hid (And.intro d1 d2)
        have HR1 := Lib.hid (And.intro r1' r2')
        have hro : ∀ u ∈ co.flatten, u.oneCell' = true := cus_one o2 o1
        have hrd : ∀ u ∈ cd.flatten, u.oneCell' = true := cus_one d2 d1
        have hrr : ∀ u ∈ cr.flatten, u.oneCell' = true := cus_one r2' r1'
        clear HOW6 HDW6 HRG6 o1 o2 o4 d1 d2 d4 r1' r2' r4
        go_upto_region 19 with (first | (go_at_call 6; go_loud ((with_reducible refine (HRW.out _ (by repeat (with_reducible first | assumption | exact grA | apply grB | apply grC | apply grD | refine grE ?_ (by omega) _ | refine grF ?_ (by omega) _ _))).mono ?_); rintro r w9 ⟨v9, r2, rfl, hg9, hi9, hl9, hc9⟩; (have hgE9 : wE.grows w9 := World.grows.trans (by repeat (with_reducible first | assumption | exact grA | apply grB | apply grC | apply grD | refine grE ?_ (by omega) _ | refine grF ?_ (by omega) _ _)) hg9); (obtain ⟨a9, c9, rfl, -, -⟩ := hc9.len); (have HC9 := Lib.hid hc9); (have HI9 := Lib.hid hi9); clear hc9 hi9 hg9)) | (at_builtin; go_loud (refine wpList_app wB (wB.heap.size) rfl (.tmp 93) (.tmp 97) _ rfl 30 (.agg #[.string ByteArray.empty, .slice none 0 0]) 2 40 Tryz.underlying22 (by kernel_rfl) rfl (by omega) (by omega) _ down.length _ rfl (World.ownsRow.grows HOC.out (hgCF.trans (by repeat (with_reducible first | assumption | exact grA | apply grB | apply grC | apply grD | refine grE ?_ (by omega) _ | refine grF ?_ (by omega) _ _)))) _ 1 _ [.string x, .slice aF tk5.length cF] rfl rfl (cells_of_row (e := 30) (fr := (0, 0)) (by simp [go_sem])) (by simp [Value.oneCell']) (by omega) ((hgBC.trans hgCF).trans (by repeat (with_reducible first | assumption | exact grA | apply grB | apply grC | apply grD | refine grE ?_ (by omega) _ | refine grF ?_ (by omega) _ _))) (by omega) (by first | omega | (simp <;> omega)) ?_; intro v' w' hg' HO' HR' HG' HA'); obtain ⟨aE, cE, rfl⟩ := own_slice HO'.out; have hFE : ∀ g, wC.heap.size ≤ g → g < wF.heap.size → w'.row g = wF.row g := fun g h1 h2 => (row_growV HG'.out (Nat.lt_of_lt_of_le h2 (World.grows.below (by repeat (with_reducible first | assumption | exact grA | apply grB | apply grC | apply grD | refine grE ?_ (by omega) _ | refine grF ?_ (by omega) _ _))).size) (fun e => by have := (HOC.out.lt g e.symm).2; omega)).trans (World.grows.row_eq (by repeat (with_reducible first | assumption | exact grA | apply grB | apply grC | apply grD | refine grE ?_ (by omega) _ | refine grF ?_ (by omega) _ _)) h2); have hFz : wF.heap.size ≤ w'.heap.size := Nat.le_trans (World.grows.below (by repeat (with_reducible first | assumption | exact grA | apply grB | apply grC | apply grD | refine grE ?_ (by omega) _ | refine grF ?_ (by omega) _ _))).size HG'.out.size; have HOE := HO'; have hgBE := hg'; obtain ⟨wE, hqwE⟩ : ∃ z, z = w' := ⟨_, rfl⟩; subst hqwE; clear HO' HG' HA' HR'; have HRW := Lib.hid (rings_args HO1.out HR1.out HD1.out hg6B hgBE HSS.out hgw6 hg36 hlo HN2.out HOB.out HOE.out HVF.out hFE hFz sa hl20 hdl)) | (go_at_call 10; go_loud ((with_reducible refine (HT5.out _ ((hgw6.trans hg6B).trans (hgBC.trans (by repeat (with_reducible first | assumption | exact grA | apply grB | apply grC | apply grD | refine grE ?_ (by omega) _ | refine grF ?_ (by omega) _ _))))).mono ?_); rintro r wF ⟨vF, rfl, hgF, hvF⟩; (have hgCF : wC.grows wF := World.grows.trans (by repeat (with_reducible first | assumption | exact grA | apply grB | apply grC | apply grD | refine grE ?_ (by omega) _ | refine grF ?_ (by omega) _ _)) hgF); (have hsF := hgCF.below.size); (obtain ⟨aF, cF, rfl⟩ := own_slice hvF.1); (have HVF := Lib.hid (TkO.slAt (S := fun g => wC.heap.size ≤ g ∧ g < wF.heap.size) hvF fun g h1 h2 => ⟨Nat.le_trans (World.grows.below (by repeat (with_reducible first | assumption | exact grA | apply grB | apply grC | apply grD | refine grE ?_ (by omega) _ | refine grF ?_ (by omega) _ _))).size h1, h2⟩)); clear hvF hgF)) | (at_builtin; go_loud (refine wpList_appS wB (wB.heap.size) rfl (.tmp 91) (.tmp 92) _ rfl 30 (.agg #[.string ByteArray.empty, .slice none 0 0]) 2 40 Tryz.underlying22 (by kernel_rfl) rfl (by omega) (by omega) _ 0 _ rfl (own_emptyU (by simp [go_sem]) (Nat.le_refl _)) _ down.length _ cd.flatten rfl d3 (cells_fro HD4.out (hg6B.trans (by repeat (with_reducible first | assumption | exact grA | apply grB | apply grC | apply grD | refine grE ?_ (by omega) _ | refine grF ?_ (by omega) _ _)))) hrd (by omega) (by repeat (with_reducible first | assumption | exact grA | apply grB | apply grC | apply grD | refine grE ?_ (by omega) _ | refine grF ?_ (by omega) _ _)) (by omega) (by first | omega | (simp <;> omega)) ?_; intro v' w' hg' HO' HR' HG' HA'); rw [Nat.zero_add, List.nil_append] at HO'; obtain ⟨aC, cC, rfl⟩ := own_slice HO'.out; have HOC := HO'; have hgBC := hg'; have hsC := hgBC.below.size; obtain ⟨wC, hqwC⟩ : ∃ z, z = w' := ⟨_, rfl⟩; subst hqwC; clear HO' HG' HA' HR') | (at_builtin; go_loud (refine wpList_appS w6 (w6.heap.size) rfl (.tmp 88) (.tmp 89) _ rfl 30 (.agg #[.string ByteArray.empty, .slice none 0 0]) 2 40 Tryz.underlying22 (by kernel_rfl) rfl (by omega) (by omega) _ N _ rfl (World.ownsRow.grows HOA.out (by repeat (with_reducible first | assumption | exact grA | apply grB | apply grC | apply grD | refine grE ?_ (by omega) _ | refine grF ?_ (by omega) _ _))) _ n2 _ cr.flatten rfl r3' (cells_fro HR4.out (hg6A.trans (by repeat (with_reducible first | assumption | exact grA | apply grB | apply grC | apply grD | refine grE ?_ (by omega) _ | refine grF ?_ (by omega) _ _)))) hrr (by omega) (hg6A.trans (by repeat (with_reducible first | assumption | exact grA | apply grB | apply grC | apply grD | refine grE ?_ (by omega) _ | refine grF ?_ (by omega) _ _))) (by omega) (by first | omega | (simp <;> omega)) ?_; intro v' w' hg' HO' HR' HG' HA'); obtain ⟨aB, cB, rfl⟩ := own_slice HO'.out; have HOB := HO'; have hg6B := hg'; have hsB := hg6B.below.size; obtain ⟨wB, hqwB⟩ : ∃ z, z = w' := ⟨_, rfl⟩; subst hqwB; clear HO' HG' HA' HR') | (at_builtin; go_loud (refine wpList_appS w6 (w6.heap.size) rfl (.tmp 86) (.tmp 87) _ rfl 30 (.agg #[.string ByteArray.empty, .slice none 0 0]) 2 40 Tryz.underlying22 (by kernel_rfl) rfl (by omega) (by omega) _ 0 _ rfl (own_emptyU (by simp [go_sem]) (Nat.le_refl _)) _ N _ co.flatten rfl o3 (cells_fro HO4.out (by repeat (with_reducible first | assumption | exact grA | apply grB | apply grC | apply grD | refine grE ?_ (by omega) _ | refine grF ?_ (by omega) _ _))) hro (by omega) (by repeat (with_reducible first | assumption | exact grA | apply grB | apply grC | apply grD | refine grE ?_ (by omega) _ | refine grF ?_ (by omega) _ _)) (by omega) (by first | omega | (simp <;> omega)) ?_; intro v' w' hg' HO' HR' HG' HA'); rw [Nat.zero_add, List.nil_append] at HO'; obtain ⟨aA, cA, rfl⟩ := own_slice HO'.out; have HOA := HO'; have hg6A := hg'; have hsA := hg6A.below.size; obtain ⟨wA, hqwA⟩ : ∃ z, z = w' := ⟨_, rfl⟩; subst hqwA; clear HO' HG' HA' HR'))
        have hgB9 := hgBE.trans hgE9
        have hg69 := hg6B.trans hgB9
        have hgw9 := hgw6.trans hg69
        obtain ⟨F1, sF, tF⟩ := HI6.out
        obtain ⟨G1, sG, tG⟩ := HI9.out
        obtain ⟨gx, gy, gn⟩ := rings_sol HCX.out HCY.out U1.out U2.out (fun c hc => (HAL.out c hc).1) (fun c hc => (HAL.out c hc).2) sG sF
        have HRT := Lib.hid (rings_tells gx gy gn tG tF)
        have HNM := Lib.hid (show ∀ c ∈ r2, c.n ≠ x ∧ c.n ≠ y from fun c hc => by
          rw [HRT.out] at hc
          have h3 := (List.mem_filter.1 hc).2
          simpa using h3)
        clear sF tF sG tG gx gy gn HOA HOB HOC HOE HRW HVF hFE hFz hg6A hgBC hgCF
        go_wp2_with fail
        go_loopg [102] r2.length (fun gn v102 wj => ∃ i : Nat, Hid (gn + i = r2.length ∧ i ≤ r2.length) ∧ v102 = .int .i64 i ∧ w9.grows wj)
        case atStart => exact ⟨0, Lib.hid ⟨by simp, Nat.zero_le _⟩, by go_num, (by repeat (with_reducible first | assumption | exact grA | apply grB | apply grC | apply grD | refine grE ?_ (by omega) _ | refine grF ?_ (by omega) _ _))⟩
        case round =>
          obtain ⟨i, HQ, rfl, hgj⟩ := hrel
          obtain ⟨j1, j2⟩ := HQ.out
          by_cases hlt : i < r2.length
          · have i1 : (0 : Int) ≤ (i : Int) := by omega
            have i2 : (i : Int) < (r2.length : Int) := by omega
            have iw : IntKind.i64.wrap ((i : Int) + 1) = (i : Int) + 1 := by rw [IntKind.wrap_i64]; omega
            obtain ⟨z, hgt⟩ : ∃ z, r2[i]? = some z := ⟨_, List.getElem?_eq_getElem (by omega)⟩
            have hnz := HNM.out z (List.mem_of_getElem? hgt)
            obtain ⟨g, off, cs, rfl, -, -, k1, hv⟩ := HC9.out.elt hgt
            obtain ⟨nm, ts⟩ := z
            obtain ⟨hnm, t, rfl, hts, htl⟩ := hv
            obtain ⟨aT, cT, rfl, -, -⟩ := hts.len
            simp only at hnz
            have b1 : (nm.toList == x.toList) = false := by rw [beq_eq_false_iff_ne]; exact fun e => hnz.1 (ba_toList_inj e)
            have b1' : ¬ nm.toList = x.toList := fun e => hnz.1 (ba_toList_inj e)
            have b2 : (nm.toList == y.toList) = false := by rw [beq_eq_false_iff_ne]; exact fun e => hnz.2 (ba_toList_inj e)
            have b2' : ¬ nm.toList = y.toList := fun e => hnz.2 (ba_toList_inj e)
            have k2 := k1.grows hgj
            have z3 := lt_sz k2.lt
            obtain ⟨u1, u2⟩ := k2
            replace u1 : segOk (off + i * 2) 2 (wr.row g) = true := u1
            replace u2 : segV (off + i * 2) 2 (wr.row g) = .agg #[.string nm, .slice aT ts.length cT] := u2
            clear hgt hts htl k1 hnz
            go_upto_region 22 with fail
            refine abs_rows (w := wr) (G := fun W => Code.wp _ _ _ _ W) (by repeat (with_reducible first | assumption | exact grA | apply grB | apply grC | apply grD | refine grE ?_ (by omega) _ | refine grF ?_ (by omega) _ _)) [(wr.heap.size, .cells #[.string nm, .slice aT ts.length cT] 30)] (by simp [go_sem, *]) ?_
            intro w4 gw4 hl
            simp only [List.forall_mem_cons, List.not_mem_nil, false_implies, implies_true, and_true] at hl
            have x9 := hl
            have zx9 := row_sz' x9
            clear u1 u2 z3
            go_wp2_with fail
            go_roundg (r2.length - (i + 1))
            case measure => omega
            case rel => exact ⟨i + 1, Lib.hid ⟨by omega, by omega⟩, by go_num, (hgj.trans gw4).trans (by repeat (with_reducible first | assumption | exact grA | apply grB | apply grC | apply grD | refine grE ?_ (by omega) _ | refine grF ?_ (by omega) _ _))⟩
          · have i2 : ¬ (i : Int) < (r2.length : Int) := by omega
            obtain ⟨wG, hwG⟩ : ∃ wG, wG = wr := ⟨_, rfl⟩
            subst hwG
            have hg6G := hg69.trans hgj
            have hgwG := hgw9.trans hgj
            have hg9G := hgj
            have hsG := hg6G.below.size
            clear HQ j1 j2 i2 hgj
            go_wp2_with fail
            go_loopg [20, 119] r1.length (fun gn v20 v119 wj => ∃ (i : Nat) (kn : List Cu) (a : Option Addr) (c : Nat), Hid (gn + i = r1.length ∧ i ≤ r1.length ∧ kn.length ≤ i) ∧ v20 = .slice a kn.length c ∧ v119 = .int .i64 i ∧ wG.grows wj ∧ Hid (kn = (r1.take i).filter (fun c => decide (c.n ≠ x) && decide (c.n ≠ y)) ∧ OwnAt wj wG.heap.size 30 2 (CuR w6 fun g => g < w6.heap.size) (.slice a kn.length c) kn))
            case atStart => exact ⟨0, [], none, 0, Lib.hid ⟨by simp, Nat.zero_le _, Nat.le_refl _⟩, rfl, by go_num, (by repeat (with_reducible first | assumption | exact grA | apply grB | apply grC | apply grD | refine grE ?_ (by omega) _ | refine grF ?_ (by omega) _ _)), Lib.hid ⟨rfl, OwnAt_nil _ _ _ _ _⟩⟩
            case round =>
              obtain ⟨i, kn, aK, cK, HQ, rfl, rfl, hgj, HO⟩ := hrel
              obtain ⟨j1, j2, j3⟩ := HQ.out
              have hg6j := hg6G.trans hgj
              by_cases hlt : i < r1.length
              · have i1 : (0 : Int) ≤ (i : Int) := by omega
                have i2 : (i : Int) < (r1.length : Int) := by omega
                have iw : IntKind.i64.wrap ((i : Int) + 1) = (i : Int) + 1 := by rw [IntKind.wrap_i64]; omega
                obtain ⟨z, hgt⟩ : ∃ z, r1[i]? = some z := ⟨_, List.getElem?_eq_getElem (by omega)⟩
                obtain ⟨g, off, cs, rfl, hSg, -, k1, hv⟩ := HC6.out.elt hgt
                have HTK := Lib.hid (show (r1.take (i + 1)).filter (fun c => decide (c.n ≠ x) && decide (c.n ≠ y)) = kn ++ (if (decide (z.n ≠ x) && decide (z.n ≠ y)) = true then [z] else []) by
                  rw [List.take_add_one, hgt, List.filter_append, ← HO.out.1]
                  simp [List.filter_cons])
                obtain ⟨nm, ts⟩ := z
                have hv2 : CuR w6 (fun g => g < w6.heap.size) ⟨nm, ts⟩ cs := CuR.keep hv fun g hg hl => ⟨rfl, hl⟩
                obtain ⟨hnm, t, rfl, hts, htl⟩ := hv
                obtain ⟨aT, cT, rfl, -, -⟩ := hts.len
                have HCX2 := Lib.hid hv2
                have k2 := k1.grows hg6j
                have z3 := lt_sz k2.lt
                obtain ⟨u1, u2⟩ := k2
                replace u1 : segOk (off + i * 2) 2 (wr.row g) = true := u1
                replace u2 : segV (off + i * 2) 2 (wr.row g) = .agg #[.string nm, .slice aT ts.length cT] := u2
                clear hgt hts htl k1 hv2
                simp only at HTK
                go_upto_region 29 with fail
                refine abs_rows (w := wr) (G := fun W => Code.wp _ _ _ _ W) (by repeat (with_reducible first | assumption | exact grA | apply grB | apply grC | apply grD | refine grE ?_ (by omega) _ | refine grF ?_ (by omega) _ _)) [(wr.heap.size, .cells #[.string nm, .slice aT ts.length cT] 30)] (by simp [go_sem, *]) ?_
                intro w4 gw4 hl
                simp only [List.forall_mem_cons, List.not_mem_nil, false_implies, implies_true, and_true] at hl
                have x9 := hl
                have zx9 := row_sz' x9
                clear u1 u2 z3
                have hgG4 := hgj.trans gw4
                generalize wr.heap.size = b9 at *
                by_cases e1 : nm = x
                · have b1 : (nm.toList == x.toList) = true := by rw [e1]; simp
                  have b1' : nm.toList = x.toList := by rw [e1]
                  rw [if_neg (by simp [e1]), List.append_nil] at HTK
                  clear e1
                  go_wp2_with fail
                  all_goals
                    go_roundg (r1.length - (i + 1))
                    case measure => omega
                    case rel => exact ⟨i + 1, kn, aK, cK, Lib.hid ⟨by omega, by omega, by omega⟩, rfl, by go_num, hgG4.trans (by repeat (with_reducible first | assumption | exact grA | apply grB | apply grC | apply grD | refine grE ?_ (by omega) _ | refine grF ?_ (by omega) _ _)), Lib.hid ⟨HTK.out.symm, HO.out.2.mono (gw4.trans (by repeat (with_reducible first | assumption | exact grA | apply grB | apply grC | apply grD | refine grE ?_ (by omega) _ | refine grF ?_ (by omega) _ _))) fun _ _ _ h => h⟩⟩
                · have b1 : (nm.toList == x.toList) = false := by rw [beq_eq_false_iff_ne]; exact fun e => e1 (ba_toList_inj e)
                  have b1' : ¬ nm.toList = x.toList := fun e => e1 (ba_toList_inj e)
                  by_cases e2 : nm = y
                  · have b2 : (nm.toList == y.toList) = true := by rw [e2]; simp
                    have b2' : nm.toList = y.toList := by rw [e2]
                    rw [if_neg (by simp [e2]), List.append_nil] at HTK
                    clear e1 e2
                    go_wp2_with fail
                    all_goals
                      go_roundg (r1.length - (i + 1))
                      case measure => omega
                      case rel => exact ⟨i + 1, kn, aK, cK, Lib.hid ⟨by omega, by omega, by omega⟩, rfl, by go_num, hgG4.trans (by repeat (with_reducible first | assumption | exact grA | apply grB | apply grC | apply grD | refine grE ?_ (by omega) _ | refine grF ?_ (by omega) _ _)), Lib.hid ⟨HTK.out.symm, HO.out.2.mono (gw4.trans (by repeat (with_reducible first | assumption | exact grA | apply grB | apply grC | apply grD | refine grE ?_ (by omega) _ | refine grF ?_ (by omega) _ _))) fun _ _ _ h => h⟩⟩
                  · have b2 : (nm.toList == y.toList) = false := by rw [beq_eq_false_iff_ne]; exact fun e => e2 (ba_toList_inj e)
                    have b2' : ¬ nm.toList = y.toList := fun e => e2 (ba_toList_inj e)
                    rw [if_pos (by simp [e1, e2])] at HTK
                    clear e1 e2
                    obtain ⟨css, q1, q2, q3⟩ := HO.out.2
                    have HQ3 := Lib.hid (World.ownsRow.grows q3 gw4)
                    have HQ12 := Lib.hid (And.intro q1 q2)
                    have hs4 := hgG4.below.size
                    have hkl : kn.length ≤ 8000000 := by omega
                    clear q1 q2 q3
                    go_wp2_with ((at_builtin; refine wpList_app wG (wG.heap.size) rfl (.tmp 133) (.tmp 135) _ rfl 30 (.agg #[.string ByteArray.empty, .slice none 0 0]) 2 40 Tryz.underlying22 (by kernel_rfl) rfl (by omega) (by omega) _ kn.length _ rfl (World.ownsRow.grows HQ3.out (by repeat (with_reducible first | assumption | exact grA | apply grB | apply grC | apply grD | refine grE ?_ (by omega) _ | refine grF ?_ (by omega) _ _))) _ 1 _ [.string nm, .slice aT ts.length cT] rfl rfl (cells_of_row (e := 30) (fr := (0, 0)) (by simp [go_sem])) (by simp [Value.oneCell']) (by omega) (by repeat (with_reducible first | assumption | exact grA | apply grB | apply grC | apply grD | refine grE ?_ (by omega) _ | refine grF ?_ (by omega) _ _)) (by omega) (by first | omega | (simp <;> omega)) ?_; intro v' w' hg' HO' HR' HG' HA'); (obtain ⟨a8, c8, rfl⟩ := own_slice HO'.out))
                    have hle : (kn ++ [(⟨nm, ts⟩ : Cu)]).length = kn.length + 1 := by simp
                    go_roundg (r1.length - (i + 1))
                    case measure => omega
                    case rel =>
                      refine ⟨i + 1, kn ++ [⟨nm, ts⟩], a8, c8, Lib.hid ⟨by omega, by omega, by omega⟩, by rw [hle], by go_num, hg'.trans (by repeat (with_reducible first | assumption | exact grA | apply grB | apply grC | apply grD | refine grE ?_ (by omega) _ | refine grF ?_ (by omega) _ _)), Lib.hid ⟨HTK.out.symm, ?_⟩⟩
                      rw [hle]
                      exact OwnAt.mono (OwnAt.append (css' := [[.string nm, .slice aT ts.length cT]]) (l' := [(⟨nm, ts⟩ : Cu)]) HQ12.out.1 HQ12.out.2 rfl (fun j z cs h1 h2 => by
                        cases j with
                        | succ j => simp at h1
                        | zero =>
                          simp at h1 h2
                          subst h1; subst h2
                          exact ⟨rfl, HCX2.out⟩) (fun _ _ h => h) (by simpa using HO'.out)) (by repeat (with_reducible first | assumption | exact grA | apply grB | apply grC | apply grD | refine grE ?_ (by omega) _ | refine grF ?_ (by omega) _ _)) fun _ _ _ h => h
              · have i2 : ¬ (i : Int) < (r1.length : Int) := by omega
                obtain rfl : i = r1.length := by omega
                have hke : kn = r2 := by have := HO.out.1; rw [List.take_length] at this; rw [this]; exact HRT.out.symm
                have hck : CusAt wr (fun g => g < wr.heap.size) (.slice aK kn.length cK) kn := OwnAt.slAt (OwnAt.mono HO.out.2 World.grows.refl fun z _ cs hx => CuR.keep hx fun g hg hl => ⟨hg6j.row_eq hl, Nat.lt_of_lt_of_le hl hg6j.below.size⟩) (by omega) fun g hg => by
                  obtain ⟨css, q1, q2, q3⟩ := HO.out.2
                  exact (q3.lt g hg).2
                have hck2 : CusAt wr (fun g => g < wr.heap.size) (.slice aK kn.length cK) r2 := by rw [← hke]; exact hck
                have HSM := Lib.hid (fun (W : World) (hg : wr.grows W) => fcusame_any (l := r2) (CusAt.grows HC9.out ((hg9G.trans hgj).trans hg)) (CusAt.grows hck2 hg))
                have hgwr := hgwG.trans hgj
                clear hck hck2 hke HO
                go_wp2_with (first | (go_at_call 5; (with_reducible refine (HSM.out _ (by repeat (with_reducible first | assumption | exact grA | apply grB | apply grC | apply grD | refine grE ?_ (by omega) _ | refine grF ?_ (by omega) _ _))).mono ?_); rintro e w1 ⟨rfl, x1, rfl⟩) | (go_at_call 8; (with_reducible refine (HW.out _ (hgwr.trans (by repeat (with_reducible first | assumption | exact grA | apply grB | apply grC | apply grD | refine grE ?_ (by omega) _ | refine grF ?_ (by omega) _ _)))).mono ?_); rintro e w1 ⟨rfl, x1, rfl⟩))
                go_ret
                exact ⟨rfl, hgwr.trans (by repeat (with_reducible first | assumption | exact grA | apply grB | apply grC | apply grD | refine grE ?_ (by omega) _ | refine grF ?_ (by omega) _ _))⟩
theorem ringsLaw_any {w : World} {v u : Value} {own down : List Cu} {So Sd : Nat → Prop} (ho : CusAt w So v own) (hd : CusAt w Sd u down) (hdl : down.length ≤ 4194000) (hSo : ∀ g, So g → g < w.heap.size) (hSd : ∀ g, Sd g → g < w.heap.size) (hK : KindsAt w) (a b : ByteArray) :
    Calls Tryz.prog 4 #[v, u, .string a, .string b] w (Gives w (.bool true)) := by
  obtain ⟨a0, c0', rfl, hcap, hcap2⟩ := SlAt.len ho
  obtain ⟨aD, cD, rfl, -, -⟩ := SlAt.len hd
  by_cases hk : 20 < own.length
  · exact rings_body (oo := own.take 20) (N := 20) (SlAt.take ho (by omega)) (by simp; omega) (Nat.le_refl _) hcap (.inr ⟨rfl, hk⟩) hd hdl hSo hSd hK a b
  · exact rings_body (oo := own) ho rfl (by omega) hcap (.inl ⟨rfl, hk⟩) hd hdl hSo hSd hK a b
end Go.Proofs.YthcaphoejplecaaGreatDoor

/- PLAIN and memory: what is put in and taken out again; one tree, and a list handed out that stays. No condition. -/
import Derived.Test.YtdbddnkjiehaiaaDomCp
import Derived.Test.YtdbddnkjiehaiaaDomSp
set_option linter.unusedSimpArgs false
set_option linter.unusedVariables false
namespace Go
open Go.RowKit
theorem filter_ne {l : List Int} {x : Int} (h : x ∉ l) : (l.filter fun y => decide (y ≠ x)) = l := List.filter_eq_self.2 fun y hy => decide_eq_true fun e => h (by rw [← e]; exact hy)
/-- an insertion: refused, or done -/
theorem ins_cases (M : Dm) (p a : Int) (t : ByteArray) : (∃ c, c ≠ 0 ∧ M.ins p a t = (0, c, M)) ∨ ∃ e ∈ M.els, ∃ n : Nat, e.id = p ∧ M.els.length < 256 ∧ M.next ≤ 1073741824 ∧ M.deep 32 e.id < 32 ∧ M.ins p a t = (M.next, 0, ⟨M.root, M.next + 1, updE M.els e.id (insE n M.next) ++ [⟨M.next, e.id, t, [], [], plainBx⟩]⟩) := by
  unfold Dm.ins
  cases hat : M.at p with
  | none => exact .inl ⟨5, by decide, rfl⟩
  | some e =>
    obtain ⟨he, rfl⟩ := findE_some hat
    simp only
    by_cases b1 : a < 0 ∨ (e.ks.length : Int) < a
    · rw [if_pos b1]; exact .inl ⟨13, by decide, rfl⟩
    rw [if_neg b1]
    by_cases b2 : nameB t.data.toList = false
    · rw [if_pos b2]; exact .inl ⟨10, by decide, rfl⟩
    rw [if_neg b2]
    by_cases b3 : 256 ≤ M.els.length ∨ 1073741824 < M.next
    · rw [if_pos b3]; exact .inl ⟨6, by decide, rfl⟩
    rw [if_neg b3]
    by_cases b4 : 32 ≤ M.deep 32 e.id
    · rw [if_pos b4]; exact .inl ⟨7, by decide, rfl⟩
    rw [if_neg b4]
    exact .inr ⟨e, he, a.toNat, rfl, by omega, by omega, by omega, rfl⟩
/-- taken out again: all as it was, but the next number -/
theorem undo {M : Dm} (h : M.Good) {e : El} (he : e ∈ M.els) (n : Nat) (t : ByteArray) : Dm.rem ⟨M.root, M.next + 1, updE M.els e.id (insE n M.next) ++ [⟨M.next, e.id, t, [], [], plainBx⟩]⟩ M.next = (0, ⟨M.root, M.next + 1, M.els⟩) := by
  have hno : ∀ y ∈ M.els, y.id ≠ M.next := fun y hy => by have := (h.wf.low y hy).2; omega
  have hid : ∀ y ∈ updE M.els e.id (insE n M.next), y.id ≠ M.next := fun y hy => by
    obtain ⟨z, hz, rfl⟩ := updE_mem.1 hy
    have : (if z.id = e.id then insE n M.next z else z).id = z.id := by split <;> rfl
    rw [this]; exact hno z hz
  have hkn : ∀ y ∈ M.els, M.next ∉ y.ks := fun y hy hk => by
    obtain ⟨f, hf, h3, _⟩ := h.wf.kid y hy _ hk
    exact hno f hf h3
  have hroot : ¬ M.next = M.root := fun hh => by
    obtain ⟨r, hr, h1, _⟩ := h.wf.rootE
    exact hno r hr (by rw [h1, hh])
  have hat : Dm.at ⟨M.root, M.next + 1, updE M.els e.id (insE n M.next) ++ [⟨M.next, e.id, t, [], [], plainBx⟩]⟩ M.next = some ⟨M.next, e.id, t, [], [], plainBx⟩ := by
    unfold Dm.at
    rw [Go.Proofs.Ytdbddnkjiehaiaa.findE_add (x := ⟨M.next, e.id, t, [], [], plainBx⟩) hid]; exact if_pos rfl
  unfold Dm.rem
  rw [hat]
  simp only
  rw [if_neg hroot]
  have hb : Dm.below ⟨M.root, M.next + 1, updE M.els e.id (insE n M.next) ++ [⟨M.next, e.id, t, [], [], plainBx⟩]⟩ 32 M.next = [M.next] := by
    show Dm.below _ (31 + 1) M.next = _
    unfold Dm.below
    rw [hat]; rfl
  rw [hb]
  have hne : e.id ≠ M.next := hno e he
  congr 2
  unfold updE
  rw [List.map_append, List.filter_append, List.map_map]
  have e2 : ((([⟨M.next, e.id, t, [], [], plainBx⟩] : List El).map fun x => if x.id = e.id then { x with ks := x.ks.filter fun k => decide (k ≠ M.next) } else x).filter fun f => decide (f.id ∉ [M.next])) = [] := by
    simp only [List.map_cons, List.map_nil]
    rw [if_neg (show ¬ M.next = e.id from fun hh => hne hh.symm)]
    simp
  rw [e2, List.append_nil]
  have e3 : (M.els.map ((fun x : El => if x.id = e.id then { x with ks := x.ks.filter fun k => decide (k ≠ M.next) } else x) ∘ fun x => if x.id = e.id then insE n M.next x else x)) = M.els := by
    conv => rhs; rw [← List.map_id M.els]
    refine List.map_congr_left fun x hx => ?_
    show (fun y : El => if y.id = e.id then ({ y with ks := y.ks.filter fun k => decide (k ≠ M.next) } : El) else y) (if x.id = e.id then insE n M.next x else x) = x
    by_cases hxe : x.id = e.id
    · rw [if_pos hxe]
      show (if x.id = e.id then ({ x with ks := (x.ks.take n ++ M.next :: x.ks.drop n).filter fun k => decide (k ≠ M.next) } : El) else insE n M.next x) = x
      rw [if_pos hxe]
      have hk := hkn x hx
      have h1 : (x.ks.take n ++ M.next :: x.ks.drop n).filter (fun k => decide (k ≠ M.next)) = x.ks := by
        rw [List.filter_append, List.filter_cons_of_neg (by simp), ← List.filter_append, List.take_append_drop]
        exact filter_ne hk
      rw [h1]
    · rw [if_neg hxe]
      show (if x.id = e.id then _ else x) = x
      rw [if_neg hxe]
  rw [e3]
  exact List.filter_eq_self.2 fun y hy => decide_eq_true (by simpa using hno y hy)
theorem good_next {M : Dm} (h : M.Good) (hn : M.next ≤ 1073741824) : Dm.Good ⟨M.root, M.next + 1, M.els⟩ :=
  ⟨⟨h.wf.up, fun e he => by have := h.wf.low e he; exact ⟨this.1, by show e.id < M.next + 1; omega⟩, by show M.next + 1 ≤ _; omega, h.wf.few, h.wf.rootE, h.wf.kid, h.wf.once, h.wf.dep⟩, h.par, h.ups⟩
end Go
namespace Go.Proofs.Ytdbddnkjiehaiaa
open Go.Maps Go.RowKit Go.Sort
/-- one tree -/
structure One (W w : World) (L : Ly) (M : Dm) : Prop where
  gr : W.grows w
  t : TreeAt w L M
  ot : ∀ k, L.own M.els k → W.heap.size ≤ k
/-- a list handed out between B and w5's end stays, and the tree keeps away from it -/
structure Stay (B : Nat) (w5 wj : World) (L : Ly) (M : Dm) : Prop where
  row : ∀ k, B ≤ k → k < w5.heap.size → wj.row k = w5.row k
  size : w5.heap.size ≤ wj.heap.size
  aw : ∀ k, L.own M.els k → k < B ∨ w5.heap.size ≤ k
theorem One.step {W w w' : World} {L : Ly} {M M' : Dm} (h : One W w L M) (he : Edt w L M M' w') : ∃ L' : Ly, L'.t = L.t ∧ One W w' L' M' := by
  obtain ⟨L', h1, h2, h3⟩ := he
  refine ⟨L', h1, h2.gr W h.ot h.gr, h3, fun k hk => ?_⟩
  rcases h2.sub k hk with h4 | h4
  · exact h.ot k h4
  · exact Nat.le_trans h.gr.below.size h4
theorem One.stay {W w w' w5 : World} {B : Nat} {L : Ly} {M M' : Dm} (h : One W w L M) (hs : Stay B w5 w L M) (he : Edt w L M M' w') : ∃ L' : Ly, L'.t = L.t ∧ One W w' L' M' ∧ Stay B w5 w' L' M' := by
  obtain ⟨L', h1, h2, h3⟩ := he
  refine ⟨L', h1, ⟨h2.gr W h.ot h.gr, h3, fun k hk => ?_⟩, fun k k1 k2 => ?_, Nat.le_trans hs.size h2.size, fun k hk => ?_⟩
  · rcases h2.sub k hk with h4 | h4
    · exact h.ot k h4
    · exact Nat.le_trans h.gr.below.size h4
  · refine (h2.row k (fun hk => ?_) (by have := hs.size; omega)).trans (hs.row k k1 k2)
    rcases hs.aw k hk with h4 | h4 <;> omega
  · rcases h2.sub k hk with h4 | h4
    · exact hs.aw k h4
    · exact .inr (Nat.le_trans hs.size h4)
theorem One.grows {W w w' : World} {L : Ly} {M : Dm} (h : One W w L M) (hg : w.grows w') : One W w' L M := ⟨h.gr.trans hg, h.t.grows hg, h.ot⟩
theorem Stay.grows {B : Nat} {w5 w w' : World} {L : Ly} {M : Dm} (h : Stay B w5 w L M) (hg : w.grows w') : Stay B w5 w' L M := ⟨fun k k1 k2 => (hg.row_eq (by have := h.size; omega)).trans (h.row k k1 k2), Nat.le_trans h.size hg.below.size, h.aw⟩
theorem Stay.els {B : Nat} {w5 wj : World} {L : Ly} {M : Dm} {v : Value} {l : List El} (h : Stay B w5 wj L M) (ho : Outs w5 B v l) : ElsAt wj v l := ElsAt.keep ho.slAt fun g hg hl => h.row g hg hl
theorem stay_of {W w w5 : World} {L : Ly} {M : Dm} (h : One W w L M) (hg : w.grows w5) : Stay w.heap.size w5 w5 L M := ⟨fun _ _ _ => rfl, Nat.le_refl _, fun k hk => .inl (h.t.lt hk)⟩
theorem Stay.next {B : Nat} {w5 wj : World} {L : Ly} {M M' : Dm} (h : Stay B w5 wj L M) (he : M'.els = M.els) : Stay B w5 wj L M' := ⟨h.row, h.size, by rw [he]; exact h.aw⟩
/-- a copy beside the tree -/
theorem two_copy {W w w' w5 : World} {B : Nat} {L Lc : Ly} {M : Dm} (h : One W w L M) (hs : Stay B w5 w L M) (hg : w.grows w') (hc : TreeAt w' Lc M) (ho : ∀ k, Lc.own M.els k → w.heap.size ≤ k) : Two W w' L Lc M M ∧ Stay B w5 w' Lc M :=
  ⟨⟨h.gr.trans hg, h.t.grows hg, hc, h.ot, fun k hk => by have := ho k hk; have := h.gr.below.size; omega, fun k hk hu => by have := h.t.lt hk; have := ho k hu; omega⟩, (hs.grows hg).row, (hs.grows hg).size, fun k hk => .inr (by have := ho k hk; have := hs.size; omega)⟩
theorem Two.stay {W w w' w5 : World} {B : Nat} {Lt Lu : Ly} {Mt Mu Mu' : Dm} (h : Two W w Lt Lu Mt Mu) (hs : Stay B w5 w Lu Mu) (he : Edt w Lu Mu Mu' w') : ∃ Lu' : Ly, Lu'.t = Lu.t ∧ Two W w' Lt Lu' Mt Mu' ∧ Stay B w5 w' Lu' Mu' := by
  obtain ⟨L', h1, h2, h3⟩ := he
  have h4 : One W w Lu Mu := ⟨h.gr, h.u, h.ou⟩
  refine ⟨L', h1, ⟨h2.gr W h.ou h.gr, h.t.chg h2 fun k hk hu => h.ap k hk hu, h3, h.ot, fun k hk => ?_, fun k hk hu => ?_⟩, fun k k1 k2 => ?_, Nat.le_trans hs.size h2.size, fun k hk => ?_⟩
  · rcases h2.sub k hk with q | q
    · exact h.ou k q
    · exact Nat.le_trans h.gr.below.size q
  · rcases h2.sub k hu with q | q
    · exact h.ap k hk q
    · have := h.t.lt hk; omega
  · refine (h2.row k (fun hk => ?_) (by have := hs.size; omega)).trans (hs.row k k1 k2)
    rcases hs.aw k hk with q | q <;> omega
  · rcases h2.sub k hk with q | q
    · exact hs.aw k q
    · exact .inr (Nat.le_trans hs.size q)
end Go.Proofs.Ytdbddnkjiehaiaa

/- MEMORY: the stack of lists and the openers; the reference's stack of frames. No condition. -/
import Derived.Test.YthcaphoejplecaaGreatDoorVa1
set_option linter.unusedSimpArgs false
set_option linter.unusedVariables false
namespace Go
open Go.RowKit
/-- cells laid over a list, from a place on -/
def layV (l : List Value) (o : Nat) (vs : List Value) : List Value := l.take o ++ vs ++ l.drop (o + vs.length)
theorem layV_end (l : List Value) (zs vs : List Value) (h : zs.length = vs.length) : layV (l ++ zs) l.length vs = l ++ vs := by
  unfold layV
  rw [List.take_left, List.drop_of_length_le (by simp; omega), List.append_nil]
theorem layV_one (l : List Value) (o : Nat) (v : Value) (h : o < l.length) : layV l o [v] = l.set o v := by
  unfold layV
  rw [List.set_eq_take_append_cons_drop, if_pos h]; simp
theorem layV_mid (A zs C vs : List Value) (h : zs.length = vs.length) : layV (A ++ zs ++ C) A.length vs = A ++ vs ++ C := by
  unfold layV
  rw [List.append_assoc A zs C, List.take_left, ← h, List.drop_length_add_append, List.drop_left]
theorem layV_len (l : List Value) (o : Nat) (vs : List Value) (h : o + vs.length ≤ l.length) : (layV l o vs).length = l.length := by
  unfold layV; simp; omega
theorem layV_app (X Y : List Value) (o : Nat) (vs : List Value) (h : o + vs.length ≤ X.length) : layV (X ++ Y) o vs = layV X o vs ++ Y := by
  unfold layV
  rw [List.take_append_of_le_length (by omega), List.drop_append_of_le_length (by omega)]; simp
/-- an own row, some cells of which are written -/
theorem own_layV {w W : World} {B n g k cap o : Nat} {e : TypeId} {xs vs : List Value} (h : w.ownsRow B e n (.slice (some ⟨g, 0, none⟩) k cap) k xs) (ho : o + vs.length ≤ k * n)
    (hW : ∀ cur : Array Value, w.row g = some (.cells cur e (0, 0)) → W.row g = some (.cells (layV cur.toList o vs).toArray e (0, 0))) : W.ownsRow B e n (.slice (some ⟨g, 0, none⟩) k cap) k (layV xs o vs) := by
  obtain ⟨hl, ⟨h0, _⟩ | ⟨g', cap', cur, h0, hb, hg, hnc, hcm, hcs, ht⟩⟩ := h
  · cases h0
  injection h0 with h0 _ hc
  injection h0 with h0
  injection h0 with h0
  subst h0; subst hc
  have m2 : k * n ≤ cap * n := Nat.mul_le_mul_right n hnc
  have hcl : cur.toList.length = cap * n := by simpa using hcs
  refine ⟨by rw [layV_len _ _ _ (by omega)]; exact hl, .inr ⟨g, cap, _, rfl, hb, hW cur hg, hnc, hcm, by rw [List.size_toArray, layV_len _ _ _ (by omega)]; exact hcl, ?_⟩⟩
  show List.take _ (layV _ _ _) = _
  rw [← ht]
  have e1 : layV cur.toList o vs = layV (cur.toList.take (k * n)) o vs ++ cur.toList.drop (k * n) := by
    conv => lhs; rw [← List.take_append_drop (k * n) cur.toList]
    rw [layV_app _ _ _ _ (by rw [List.length_take]; omega)]
  have e2 : (layV (cur.toList.take (k * n)) o vs).length = k * n := by rw [layV_len _ _ _ (by rw [List.length_take]; omega), List.length_take]; omega
  rw [e1, List.take_append_of_le_length (by omega), List.take_of_length_le (by omega)]
/-- how much lies open -/
def Ps.tot (p : Ps) : Nat := p.os.length + (p.ls.map List.length).sum
theorem addTop_snoc (ls : List (List Vt)) (m : List Vt) (x : Vt) : addTop (ls ++ [m]) x = ls ++ [m ++ [x]] := by
  unfold addTop; simp
theorem Ps.shut_mk (os : List Tk) (t : Tk) (ls : List (List Vt)) (m l : List Vt) : Ps.shut ⟨os ++ [t], ls ++ [m] ++ [l]⟩ = ⟨os, ls ++ [m ++ [.mk t l]]⟩ := by
  unfold Ps.shut
  simp only [List.dropLast_concat, addTop_snoc]
  simp
theorem Ps.shut_parts {p : Ps} (h : p.ls.length = p.os.length + 1) (ho : p.os ≠ []) : ∃ os t ls m l, p = ⟨os ++ [t], ls ++ [m] ++ [l]⟩ ∧ ls.length = os.length := by
  obtain ⟨O, L⟩ := p
  have hn := List.length_pos_iff.2 ho
  simp only at *
  obtain ⟨os, t, rfl, h1⟩ := snoc_of (l := O) (n := O.length - 1) (by omega)
  obtain ⟨l1, l, rfl, h2⟩ := snoc_of h
  obtain ⟨ls, m, rfl, h3⟩ := snoc_of (l := l1) (n := os.length) (by simp at h2; omega)
  exact ⟨os, t, ls, m, l, rfl, h3⟩
theorem Ps.shut_tot {p : Ps} (h : p.ls.length = p.os.length + 1) (ho : p.os ≠ []) : p.shut.tot ≤ p.tot := by
  obtain ⟨os, t, ls, m, l, rfl, _⟩ := Ps.shut_parts h ho
  rw [Ps.shut_mk]
  unfold Ps.tot
  simp
  omega
theorem Ps.step_tot {p : Ps} (h : p.ls.length = p.os.length + 1) (t : Tk) : (p.step t).tot ≤ p.tot + 1 := by
  unfold Ps.step
  split
  · unfold Ps.tot; simp; omega
  · split
    · next hc => have := Ps.shut_tot h hc.1; omega
    · obtain ⟨O, L⟩ := p
      obtain ⟨l1, m, h1, h2⟩ := snoc_of h
      simp only at *
      subst h1
      rw [addTop_snoc]
      unfold Ps.tot; simp; omega
theorem Ps.run_tot : ∀ (i : Nat) (l : List Tk), (Ps.run (l.take i)).tot ≤ i
  | 0, l => by simp [Ps.run, Ps.tot]
  | i + 1, l => by
    by_cases h : i < l.length
    · rw [Ps.run_succ (List.getElem?_eq_getElem h)]
      have := Ps.step_tot (Ps.run_len (l.take i)) l[i]
      have := Ps.run_tot i l
      omega
    · have := Ps.run_tot i l
      rw [List.take_of_length_le (by omega)] at this ⊢
      omega
theorem Ps.step_ref (p : Ps) (t : Tk) : p.step t = if p.os ≠ [] ∧ t.k = clo (p.os.getLastD zeroTk).k then p.shut else if clo t.k ≠ 0 then ⟨p.os ++ [t], p.ls ++ [[]]⟩ else ⟨p.os, addTop p.ls (.mk t [])⟩ := by
  unfold Ps.step
  by_cases hs : p.os ≠ [] ∧ t.k = clo (p.os.getLastD zeroTk).k
  · rw [if_pos hs, if_neg (by rw [hs.2, clo_no]; decide), if_pos ⟨hs.1, hs.2.symm⟩]
  · rw [if_neg hs]
    rcases clo_cases t.k with hc | hc
    · rw [if_neg (by omega), if_neg (fun hh => hs ⟨hh.1, hh.2.symm⟩), if_neg (by omega)]
    · rw [if_pos (by omega), if_pos (by omega)]
theorem Ps.ls_tot {p : Ps} {i : Nat} {l : List Vt} (h : p.ls[i]? = some l) : l.length ≤ p.tot := by
  unfold Ps.tot
  have : ∀ (L : List (List Vt)) (i : Nat), L[i]? = some l → l.length ≤ (L.map List.length).sum := fun L => by
    induction L with
    | nil => intro i h; simp at h
    | cons a L ih =>
      intro i h
      cases i with
      | zero => simp at h; subst h; simp
      | succ i => have := ih i (by simpa using h); simp; omega
  have := this _ _ h
  omega
end Go
namespace Go.Proofs.YthcaphoejplecaaGreatDoor
open Go.RowKit
/-- the program's stack of lists, and its openers -/
structure StkD (w : World) (B : Nat) (tg : Nat → Option Nat) (vO vS : Value) (ins : List Value) (p : Ps) : Prop where
  os : w.ownsRow B 65 6 vO p.os.length (p.os.flatMap Tk.cs)
  oswf : ∀ t ∈ p.os, t.Wf
  ss : w.ownsRow B 58 1 vS p.ls.length ins
  ls : LsAt w B tg ins p.ls
  tO : ∀ g, vO.ownBlock = some g → tg g = some 0
  tS : ∀ g, vS.ownBlock = some g → tg g = some 1
theorem StkD.keep {w W : World} {B : Nat} {tg tg' : Nat → Option Nat} {vO vS : Value} {ins : List Value} {p : Ps} (h : StkD w B tg vO vS ins p) (hs : w.heap.size ≤ W.heap.size)
    (hr : ∀ g, B ≤ g → g < w.heap.size → tg g ≠ some 2 → tg g ≠ some 3 → W.row g = w.row g) (ht : ∀ g, g < w.heap.size → tg' g = tg g) : StkD W B tg' vO vS ins p := by
  refine ⟨ownsRow_rowV h.os fun g hg => hr g (h.os.lt g hg).1 (h.os.lt g hg).2 ?_ ?_, h.oswf, ownsRow_rowV h.ss fun g hg => hr g (h.ss.lt g hg).1 (h.ss.lt g hg).2 ?_ ?_, h.ls.keep hs (fun g h1 h2 h3 => hr g h1 h2 ?_ ?_) ht, fun g hg => ?_, fun g hg => ?_⟩
  · rw [h.tO g hg]; simp
  · rw [h.tO g hg]; simp
  · rw [h.tS g hg]; simp
  · rw [h.tS g hg]; simp
  · rcases h3 with h3 | ⟨i, _, h3⟩ <;> rw [h3] <;> simp
  · rcases h3 with h3 | ⟨i, _, h3⟩ <;> rw [h3] <;> simp
  · rw [ht g (h.os.lt g hg).2]; exact h.tO g hg
  · rw [ht g (h.ss.lt g hg).2]; exact h.tS g hg
/-- the openers grow -/
theorem StkD.pushO {w W : World} {B : Nat} {tg : Nat → Option Nat} {vO vS vO' : Value} {ins : List Value} {p : Ps} (h : StkD w B tg vO vS ins p) {t : Tk} (ht : t.Wf) (ho : W.ownsRow B 65 6 vO' (p.os.length + 1) (p.os.flatMap Tk.cs ++ t.cs)) (hb : GrO w.heap.size vO vO') (hs : w.heap.size ≤ W.heap.size)
    (hr : ∀ g, B ≤ g → g < w.heap.size → tg g ≠ some 0 → tg g ≠ some 2 → tg g ≠ some 3 → W.row g = w.row g) : StkD W B (tgNew tg vO' w.heap.size 0) vO' vS ins ⟨p.os ++ [t], p.ls⟩ := by
  refine ⟨by simpa using ho, fun x hx => ?_, ownsRow_rowV h.ss fun g hg => hr g (h.ss.lt g hg).1 (h.ss.lt g hg).2 ?_ ?_ ?_, h.ls.keep hs (fun g h1 h2 h3 => hr g h1 h2 ?_ ?_ ?_) (fun g hg => tgNew_old _ _ _ _ hg), fun g hg => tgNew_own hb (fun g hg => ⟨(h.os.lt g hg).2, h.tO g hg⟩) hg, fun g hg => ?_⟩
  · rcases List.mem_append.1 hx with hx | hx
    · exact h.oswf x hx
    · simp at hx; subst hx; exact ht
  · rw [h.tS g hg]; simp
  · rw [h.tS g hg]; simp
  · rw [h.tS g hg]; simp
  · rcases h3 with h3 | ⟨i, _, h3⟩ <;> rw [h3] <;> simp
  · rcases h3 with h3 | ⟨i, _, h3⟩ <;> rw [h3] <;> simp
  · rcases h3 with h3 | ⟨i, _, h3⟩ <;> rw [h3] <;> simp
  · rw [tgNew_old _ _ _ _ (h.ss.lt g hg).2]; exact h.tS g hg
/-- the stack grows by an empty list -/
theorem StkD.pushS {w W : World} {B : Nat} {tg : Nat → Option Nat} {vO vS vS' : Value} {ins : List Value} {p : Ps} (h : StkD w B tg vO vS ins p) (ho : W.ownsRow B 58 1 vS' (p.ls.length + 1) (ins ++ [.slice none 0 0])) (hb : GrO w.heap.size vS vS') (hs : w.heap.size ≤ W.heap.size)
    (hr : ∀ g, B ≤ g → g < w.heap.size → tg g ≠ some 1 → tg g ≠ some 2 → tg g ≠ some 3 → W.row g = w.row g) : StkD W B (tgNew tg vS' w.heap.size 1) vO vS' (ins ++ [.slice none 0 0]) ⟨p.os, p.ls ++ [[]]⟩ := by
  refine ⟨ownsRow_rowV h.os fun g hg => hr g (h.os.lt g hg).1 (h.os.lt g hg).2 ?_ ?_ ?_, h.oswf, by simpa using ho, (h.ls.keep hs (fun g h1 h2 h3 => hr g h1 h2 ?_ ?_ ?_) (fun g hg => tgNew_old _ _ _ _ hg)).push, fun g hg => ?_, fun g hg => tgNew_own hb (fun g hg => ⟨(h.ss.lt g hg).2, h.tS g hg⟩) hg⟩
  · rw [h.tO g hg]; simp
  · rw [h.tO g hg]; simp
  · rw [h.tO g hg]; simp
  · rcases h3 with h3 | ⟨i, _, h3⟩ <;> rw [h3] <;> simp
  · rcases h3 with h3 | ⟨i, _, h3⟩ <;> rw [h3] <;> simp
  · rcases h3 with h3 | ⟨i, _, h3⟩ <;> rw [h3] <;> simp
  · rw [tgNew_old _ _ _ _ (h.os.lt g hg).2]; exact h.tO g hg
/-- the last list grows by a value -/
theorem StkD.last {w W : World} {B : Nat} {tg : Nat → Option Nat} {vO vS : Value} {ins : List Value} {os : List Tk} {ls : List (List Vt)} {m : List Vt} {um v' : Value} (h : StkD w B tg vO vS (ins ++ [um]) ⟨os, ls ++ [m]⟩) {css : List (List Value)} {x : Vt} {cs : List Value}
    (h1 : css.length = m.length) (h2 : ∀ (j : Nat) (x : Vt) (cs : List Value), m[j]? = some x → css[j]? = some cs → cs.length = 7 ∧ VOk w (RoS w B tg) x cs) (hx : VOk w (RoS w B tg) x cs) (hb : GrO w.heap.size um v')
    (ho : W.ownsRow B 70 7 v' (m.length + 1) (css.flatten ++ cs)) (hS : W.ownsRow B 58 1 vS (ls.length + 1) (ins ++ [v'])) (hs : w.heap.size ≤ W.heap.size)
    (hr : ∀ g, B ≤ g → g < w.heap.size → tg g ≠ some 1 → tg g ≠ some 2 → tg g ≠ some 3 → tg g ≠ some (ls.length + 4) → W.row g = w.row g) :
    StkD W B (tgNew tg v' w.heap.size (ls.length + 4)) vO vS (ins ++ [v']) ⟨os, ls ++ [m ++ [x]]⟩ := by
  have hil : ins.length = ls.length := by have := h.ls.len; simp at this; exact this
  have hL := h.ls.app (W := W) (i := ls.length) (v := um) (v' := v') (l := m) (by rw [← hil]; simp) (by simp) h1 h2 hx hb ho hs (fun g a b c => hr g a b ?_ ?_ ?_ ?_)
  · rw [show (ins ++ [um]).set ls.length v' = ins ++ [v'] by rw [← hil]; simp, show (ls ++ [m]).set ls.length (m ++ [x]) = ls ++ [m ++ [x]] by simp] at hL
    refine ⟨ownsRow_rowV h.os fun g hg => hr g (h.os.lt g hg).1 (h.os.lt g hg).2 ?_ ?_ ?_ ?_, h.oswf, by simpa using hS, hL, fun g hg => ?_, fun g hg => ?_⟩
    · rw [h.tO g hg]; simp
    · rw [h.tO g hg]; simp
    · rw [h.tO g hg]; simp
    · rw [h.tO g hg]; simp
    · rw [tgNew_old _ _ _ _ (h.os.lt g hg).2]; exact h.tO g hg
    · rw [tgNew_old _ _ _ _ (h.ss.lt g hg).2]; exact h.tS g hg
  · rcases c with c | ⟨i, _, _, c⟩ <;> rw [c] <;> simp
  · rcases c with c | ⟨i, _, _, c⟩ <;> rw [c] <;> simp
  · rcases c with c | ⟨i, _, _, c⟩ <;> rw [c] <;> simp
  · rcases c with c | ⟨i, _, hi, c⟩
    · rw [c]; simp
    · rw [c]; intro e; injection e with e; omega
/-- the innermost is taken off -/
theorem StkD.pop {w : World} {B : Nat} {tg : Nat → Option Nat} {aO aS : Option Addr} {nO nS cO cS : Nat} {ins : List Value} {os : List Tk} {t : Tk} {ls : List (List Vt)} {l : List Vt} {ul : Value} (h : StkD w B tg (.slice aO nO cO) (.slice aS nS cS) (ins ++ [ul]) ⟨os ++ [t], ls ++ [l]⟩) :
    StkD w B (tgPop tg ins.length) (.slice aO os.length cO) (.slice aS ls.length cS) ins ⟨os, ls⟩ ∧ VOk w (RoS w B (tgPop tg ins.length)) (.mk t l) (t.cs ++ [ul]) := by
  obtain ⟨h1, h2⟩ := h.ls.pop
  have hil : ins.length = ls.length := h1.len
  have e1 := h.os
  have e2 := h.ss
  obtain ⟨_, _, e3⟩ := own_slice e1
  obtain ⟨_, _, e4⟩ := own_slice e2
  injection e3 with _ e3 _
  injection e4 with _ e4 _
  subst e3; subst e4
  have e5 := own_short e1 (k' := os.length) (by simp)
  have e6 := own_short e2 (k' := ls.length) (by simp)
  have hb : ∀ (a : Option Addr) (n n' c g : Nat), (Value.slice a n c).ownBlock = some g → (Value.slice a n' c).ownBlock = some g := fun a n n' c g hg => by
    cases a with
    | none => exact hg
    | some a => exact hg
  refine ⟨⟨?_, fun x hx => h.oswf x (List.mem_append_left _ hx), ?_, h1, fun g hg => tgPop_low (by omega) (h.tO g (hb _ _ _ _ _ hg)), fun g hg => tgPop_low (by omega) (h.tS g (hb _ _ _ _ _ hg))⟩, VOk_mk (h.oswf t (by simp)) h2⟩
  · have : (os ++ [t]).flatMap Tk.cs = os.flatMap Tk.cs ++ t.cs := by simp
    rw [this, List.take_left' (by
      have := e5.1
      have hq : ∀ (o : List Tk), (o.flatMap Tk.cs).length = o.length * 6 := fun o => by
        induction o with
        | nil => rfl
        | cons a o ih => rw [List.flatMap_cons, List.length_append, ih]; simp; omega
      exact hq os)] at e5
    exact e5
  · rw [Nat.mul_one, List.take_left' hil] at e6
    exact e6
end Go.Proofs.YthcaphoejplecaaGreatDoor

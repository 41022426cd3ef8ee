/- MEMORY: the reference's stack of frames. No condition. -/
import Derived.Test.YthcaphoejplecaaGreatDoorVaC
set_option linter.unusedSimpArgs false
set_option linter.unusedVariables false
namespace Go
open Go.RowKit
/-- the cells of frames -/
def frC (os : List Tk) (ins : List Value) : List Value := (List.zipWith (fun (t : Tk) (u : Value) => t.cs ++ [u]) (zeroTk :: os) ins).flatten
theorem frC_snoc {os : List Tk} {ins : List Value} (h : ins.length = os.length + 1) (t : Tk) (u : Value) : frC (os ++ [t]) (ins ++ [u]) = frC os ins ++ (t.cs ++ [u]) := by
  unfold frC
  rw [← List.cons_append, List.zipWith_append (by simp; omega)]
  simp
theorem zip_len : ∀ (l : List Tk) (ins : List Value), l.length = ins.length → ((List.zipWith (fun (t : Tk) (u : Value) => t.cs ++ [u]) l ins).flatten).length = ins.length * 7
  | [], [], _ => rfl
  | t :: l, u :: ins, h => by
    rw [List.zipWith_cons_cons, List.flatten_cons, List.length_append, zip_len l ins (by simpa using h)]
    simp; omega
  | [], _ :: _, h => by cases h
  | _ :: _, [], h => by cases h
theorem frC_len {os : List Tk} {ins : List Value} (h : ins.length = os.length + 1) : (frC os ins).length = ins.length * 7 := zip_len _ _ (by simp; omega)
/-- the last frame -/
theorem frC_last {os : List Tk} {ins : List Value} (h : ins.length = os.length) : ∃ (X : List Value) (b : Tk), X.length = os.length * 7 ∧ b = os.getLastD zeroTk ∧ ∀ u, frC os (ins ++ [u]) = X ++ (b.cs ++ [u]) := by
  obtain ⟨o', b, h2, h3⟩ := snoc_of (l := zeroTk :: os) (n := os.length) (by simp)
  refine ⟨(List.zipWith (fun (t : Tk) (u : Value) => t.cs ++ [u]) o' ins).flatten, b, by rw [zip_len _ _ (by omega), h], ?_, fun u => ?_⟩
  · have := congrArg (fun l => l.getLastD zeroTk) h2
    simp only [List.getLastD_concat] at this
    rw [← this]
    cases os with
    | nil => rfl
    | cons a t => simp
  · unfold frC
    rw [h2, List.zipWith_append (by omega)]
    simp
end Go
namespace Go.Proofs.YthcaphoejplecaaGreatDoor
open Go.RowKit
/-- the reference's stack -/
structure StkR (w : World) (B : Nat) (tg : Nat → Option Nat) (v : Value) (ins : List Value) (p : Ps) : Prop where
  len : p.ls.length = p.os.length + 1
  fs : w.ownsRow B 80 7 v p.ls.length (frC p.os ins)
  oswf : ∀ t ∈ p.os, t.Wf
  ls : LsAt w B tg ins p.ls
  tF : ∀ g, v.ownBlock = some g → tg g = some 0
theorem StkR.ilen {w : World} {B : Nat} {tg : Nat → Option Nat} {v : Value} {ins : List Value} {p : Ps} (h : StkR w B tg v ins p) : ins.length = p.os.length + 1 := h.ls.len.trans h.len
theorem StkR.keep {w W : World} {B : Nat} {tg tg' : Nat → Option Nat} {v : Value} {ins : List Value} {p : Ps} (h : StkR w B tg v ins p) (hs : w.heap.size ≤ W.heap.size)
    (hr : ∀ g, B ≤ g → g < w.heap.size → W.row g = w.row g) (ht : ∀ g, g < w.heap.size → tg' g = tg g) : StkR W B tg' v ins p :=
  ⟨h.len, ownsRow_rowV h.fs fun g hg => hr g (h.fs.lt g hg).1 (h.fs.lt g hg).2, h.oswf, h.ls.keep hs (fun g h1 h2 _ => hr g h1 h2) ht, fun g hg => by rw [ht g (h.fs.lt g hg).2]; exact h.tF g hg⟩
/-- the stack grows by a frame -/
theorem StkR.push {w W : World} {B : Nat} {tg : Nat → Option Nat} {v v' : Value} {ins : List Value} {p : Ps} (h : StkR w B tg v ins p) {t : Tk} (ht : t.Wf) (ho : W.ownsRow B 80 7 v' (p.ls.length + 1) (frC p.os ins ++ (t.cs ++ [.slice none 0 0]))) (hb : GrO w.heap.size v v') (hs : w.heap.size ≤ W.heap.size)
    (hr : ∀ g, B ≤ g → g < w.heap.size → tg g ≠ some 0 → W.row g = w.row g) : StkR W B (tgNew tg v' w.heap.size 0) v' (ins ++ [.slice none 0 0]) ⟨p.os ++ [t], p.ls ++ [[]]⟩ := by
  refine ⟨by simp [h.len], by simpa [frC_snoc h.ilen] using ho, fun x hx => ?_, (h.ls.keep hs (fun g h1 h2 h3 => hr g h1 h2 ?_) (fun g hg => tgNew_old _ _ _ _ hg)).push, fun g hg => tgNew_own hb (fun g hg => ⟨(h.fs.lt g hg).2, h.tF g hg⟩) hg⟩
  · rcases List.mem_append.1 hx with hx | hx
    · exact h.oswf x hx
    · simp at hx; subst hx; exact ht
  · rcases h3 with h3 | ⟨i, _, h3⟩ <;> rw [h3] <;> simp
/-- the last list grows by a value -/
theorem StkR.last {w W : World} {B : Nat} {tg : Nat → Option Nat} {gF cF : Nat} {ins : List Value} {os : List Tk} {ls : List (List Vt)} {m : List Vt} {um v' : Value} (h : StkR w B tg (.slice (some ⟨gF, 0, none⟩) (ls.length + 1) cF) (ins ++ [um]) ⟨os, ls ++ [m]⟩) {css : List (List Value)} {x : Vt} {cs : List Value} {cur : Array Value}
    (rF : w.row gF = some (.cells cur 80))
    (h1 : css.length = m.length) (h2 : ∀ (j : Nat) (x : Vt) (cs : List Value), m[j]? = some x → css[j]? = some cs → cs.length = 7 ∧ VOk w (RoS w B tg) x cs) (hx : VOk w (RoS w B tg) x cs) (hb : GrO w.heap.size um v')
    (ho : W.ownsRow B 70 7 v' (m.length + 1) (css.flatten ++ cs)) (hs : w.heap.size ≤ W.heap.size)
    (hr : ∀ g, g < w.heap.size → g ≠ gF → um.ownBlock ≠ some g → W.row g = w.row g) (hw : W.row gF = some (.cells (layV cur.toList (ls.length * 7 + 6) [v']).toArray 80)) :
    ∃ tg', StkR W B tg' (.slice (some ⟨gF, 0, none⟩) (ls.length + 1) cF) (ins ++ [v']) ⟨os, ls ++ [m ++ [x]]⟩ := by
  have hil : ins.length = ls.length := by have := h.ls.len; simp at this; exact this
  have hol : ls.length = os.length := by have := h.len; simp at this; exact this
  have tF : tg gF = some 0 := h.tF gF rfl
  have tM : ∀ g, um.ownBlock = some g → tg g = some (ls.length + 4) := fun g hg => h.ls.tI ls.length um g (by rw [← hil]; simp) hg
  have hr2 : ∀ g, B ≤ g → g < w.heap.size → tg g ≠ some 0 → tg g ≠ some (ls.length + 4) → W.row g = w.row g := fun g _ a b c => hr g a (fun e => b (by rw [e]; exact tF)) fun e => c (tM g e)
  have hL := h.ls.app (W := W) (i := ls.length) (v := um) (v' := v') (l := m) (by rw [← hil]; simp) (by simp) h1 h2 hx hb ho hs (fun g a b c => hr2 g a b ?_ ?_)
  · rw [show (ins ++ [um]).set ls.length v' = ins ++ [v'] by rw [← hil]; simp, show (ls ++ [m]).set ls.length (m ++ [x]) = ls ++ [m ++ [x]] by simp] at hL
    obtain ⟨X, b, hX, _, hfr⟩ := frC_last (os := os) (ins := ins) (by omega)
    refine ⟨_, by simp [hol], ?_, h.oswf, hL, fun g hg => ?_⟩
    · have hf := h.fs
      simp only [List.length_append, List.length_singleton, hfr um] at hf
      have := own_layV (W := W) hf (o := ls.length * 7 + 6) (vs := [v']) (by simp; omega) (fun c hc => by rw [rF] at hc; injection hc with hc; injection hc with hc; subst hc; exact hw)
      rw [show X ++ (b.cs ++ [um]) = (X ++ b.cs) ++ [um] ++ [] by simp, show ls.length * 7 + 6 = (X ++ b.cs).length by simp [hX]; omega, layV_mid _ _ _ _ (by simp)] at this
      simp only [List.length_append, List.length_singleton, hfr v']
      simpa using this
    · have e : gF = g := by injection hg
      rw [← e, tgNew_old _ _ _ _ (h.fs.lt gF rfl).2]; exact tF
  · rcases c with c | ⟨i, _, _, c⟩ <;> rw [c] <;> simp
  · rcases c with c | ⟨i, _, hi, c⟩
    · rw [c]; simp
    · rw [c]; intro e; injection e with e; omega
/-- the innermost is taken off -/
theorem StkR.pop {w : World} {B : Nat} {tg : Nat → Option Nat} {a : Option Addr} {n c : Nat} {ins : List Value} {os : List Tk} {t : Tk} {ls : List (List Vt)} {l : List Vt} {ul : Value} (h : StkR w B tg (.slice a n c) (ins ++ [ul]) ⟨os ++ [t], ls ++ [l]⟩) :
    StkR w B (tgPop tg ins.length) (.slice a ls.length c) ins ⟨os, ls⟩ ∧ VOk w (RoS w B (tgPop tg ins.length)) (.mk t l) (t.cs ++ [ul]) := by
  obtain ⟨h1, h2⟩ := h.ls.pop
  have hil : ins.length = ls.length := h1.len
  have hol : ls.length = os.length + 1 := by have := h.len; simp at this; exact this
  have e1 := h.fs
  obtain ⟨_, _, e3⟩ := own_slice e1
  injection e3 with _ e3 _
  subst e3
  have e5 := own_short e1 (k' := ls.length) (by simp)
  refine ⟨⟨hol, ?_, fun x hx => h.oswf x (List.mem_append_left _ hx), h1, fun g hg => tgPop_low (by omega) (h.tF g (by
    cases a with
    | none => exact hg
    | some a => exact hg))⟩, VOk_mk (h.oswf t (by simp)) h2⟩
  have := frC_snoc (os := os) (ins := ins) (by omega) t ul
  simp only at e5
  rw [this, List.take_left' (by rw [frC_len (by omega), hil])] at e5
  exact e5
/-- the reference's stack, behind its call -/
def RStk (w0 w : World) (v : Value) (p : Ps) : Prop := ∃ (tg : Nat → Option Nat) (ins : List Value), w0.grows w ∧ StkR w w0.heap.size tg v ins p
theorem RStk.grows {w0 w W : World} {v : Value} {p : Ps} (h : RStk w0 w v p) (hg : w.grows W) : RStk w0 W v p := by
  obtain ⟨tg, ins, h1, h2⟩ := h
  exact ⟨tg, ins, h1.trans hg, h2.keep hg.below.size (fun g _ hl => hg.row_eq hl) (fun _ _ => rfl)⟩
end Go.Proofs.YthcaphoejplecaaGreatDoor

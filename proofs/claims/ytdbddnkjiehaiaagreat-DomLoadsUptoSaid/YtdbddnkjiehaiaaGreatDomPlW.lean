/- WALK of DomPlays: a tree and the reference's, played the same script, stay alike. No condition. -/
import Derived.Test.YtdbddnkjiehaiaaGreatDomQk
import Derived.Test.YtdbddnkjiehaiaaGreatMl
import Derived.Test.YtdbddnkjiehaiaaGreatArgsD
set_option linter.unusedSimpArgs false
set_option linter.unusedVariables false
namespace Go.Proofs.YtdbddnkjiehaiaaGreat
open Go.Maps Go.RowKit Go.Sort
theorem ops_get8 {w : World} {a : Option Addr} {n c : Nat} {l : List Opn} (h : SlAt w (fun _ => True) 11 OpR (.slice a n c) l) : n = l.length ∧ l.length ≤ 9223372036854775807 ∧ (l = [] ∨ ∃ g off, a = some ⟨g, off, none⟩ ∧ ∀ (i : Nat) (x : Opn), l[i]? = some x → ∃ cs, cs.length = 11 ∧ eltAt w g (off + i * 11) cs ∧ OpR x cs) := by
  obtain ⟨_, _, e4, h5, h6, b5⟩ := h
  injection e4 with e4 e5 e6
  subst e4; subst e6; subst e5
  exact ⟨rfl, Nat.le_trans h5 h6, b5.imp id fun ⟨g, off, h1, _, h2⟩ => ⟨g, off, h1, h2⟩⟩
/-- a tree and the reference's, apart in memory -/
structure Duo (W w : World) (L : Ly) (t : Nat) (Q : Nat → Prop) (v : Value) (Mt Mu : Dm) : Prop where
  gr : W.grows w
  tr : TreeAt w L Mt
  rf : RefAt w t Q v Mu
  ot : ∀ k, L.own Mt.els k → W.heap.size ≤ k
  ou : ∀ k, Q k → W.heap.size ≤ k
  ap : ∀ k, L.own Mt.els k → ¬ Q k
theorem Duo.grows {W w w' : World} {L : Ly} {t : Nat} {Q : Nat → Prop} {v : Value} {Mt Mu : Dm} (h : Duo W w L t Q v Mt Mu) (hg : w.grows w') : Duo W w' L t Q v Mt Mu := ⟨h.gr.trans hg, h.tr.grows hg, h.rf.grows hg, h.ot, h.ou, h.ap⟩
theorem Duo.stepT {W w w' : World} {L : Ly} {t : Nat} {Q : Nat → Prop} {v : Value} {Mt Mu Mt' : Dm} (h : Duo W w L t Q v Mt Mu) (he : Edt w L Mt Mt' w') : ∃ L' : Ly, L'.t = L.t ∧ Duo W w' L' t Q v Mt' Mu := by
  obtain ⟨L', h1, h2, h3⟩ := he
  refine ⟨L', h1, h2.gr W h.ot h.gr, h3, h.rf.keep (fun k hk => h2.row k (fun ht => h.ap k ht hk) (h.rf.qlt k hk)) h2.size, fun k hk => ?_, h.ou, fun k hk hu => ?_⟩
  · rcases h2.sub k hk with h4 | h4
    · exact h.ot k h4
    · exact Nat.le_trans h.gr.below.size h4
  · rcases h2.sub k hk with h4 | h4
    · exact h.ap k h4 hu
    · have := h.rf.qlt k hu; omega
theorem Duo.stepU {W w w' : World} {L : Ly} {t : Nat} {Q : Nat → Prop} {v : Value} {Mt Mu Mu' : Dm} (h : Duo W w L t Q v Mt Mu) (he : REdt w t Q Mu' w') : ∃ (Q' : Nat → Prop) (v' : Value), Duo W w' L t Q' v' Mt Mu' := by
  obtain ⟨Q', v', h2, h3⟩ := he
  refine ⟨Q', v', h2.gr W h.ou h.gr, h.tr.chg h2 fun k hk ht => h.ap k hk ht, h3, h.ot, fun k hk => ?_, fun k hk hu => ?_⟩
  · rcases h2.sub k hk with h4 | h4
    · exact h.ou k h4
    · exact Nat.le_trans h.gr.below.size h4
  · rcases h2.sub k hu with h4 | h4
    · exact h.ap k hk h4
    · have := h.tr.lt hk; omega
/-- the two behind some steps -/
def DuSt (W wj : World) (t u : Nat) (M : Dm) : Prop := ∃ (L : Ly) (Q : Nat → Prop) (v : Value), L.t = t ∧ Duo W wj L u Q v M M ∧ M.Good
theorem duNew {w1 w2 w3 : World} {L : Ly} {t : Nat} {Q : Nat → Prop} {v : Value} {tag : ByteArray} (h1 : w1.grows w2) (h2 : w2.grows w3) (t1 : TreeAt w2 L (newM tag)) (t2 : RefAt w3 t Q v (newM tag)) (o1 : ∀ k, L.own (newM tag).els k → w1.heap.size ≤ k) (o2 : ∀ k, Q k → w2.heap.size ≤ k) : DuSt w1 w3 L.t t (newM tag) := by
  have := h1.below.size
  exact ⟨L, Q, v, rfl, ⟨h1.trans h2, t1.grows h2, t2, o1, fun k hk => by have := o2 k hk; omega, fun k hk hu => by have := t1.lt hk; have := o2 k hu; omega⟩, newM_good tag⟩

end Go.Proofs.YtdbddnkjiehaiaaGreat

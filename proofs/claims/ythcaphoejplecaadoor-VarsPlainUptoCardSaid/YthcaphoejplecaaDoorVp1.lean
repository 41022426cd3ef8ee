/- Texts of the walk, one after the other; what each proves stands ahead of it. -/
import Derived.Test.YthcaphoejplecaaDoorTk4
import Derived.Test.YthcaphoejplecaaDoorVaX
set_option linter.unusedSimpArgs false
set_option linter.unusedVariables false
/- PLAIN: values without a use are put as they are; behind putting there is no use. No condition; no program. -/
namespace Go
open Go.RowKit
mutual
/-- the tokens of values -/
def flatV : Vt → List Tk
  | .mk t ks => t :: (flatL ks ++ (if clo t.k ≠ 0 then [shutTk t.k] else []))
def flatL : List Vt → List Tk
  | [] => []
  | x :: l => flatV x ++ flatL l
end
mutual
/-- is there a use? -/
def hasV : Vt → Bool
  | .mk t ks => useT (.mk t []) || hasL ks
def hasL : List Vt → Bool
  | [] => false
  | x :: l => hasV x || hasL l
end
theorem flatL_app (a b : List Vt) : flatL (a ++ b) = flatL a ++ flatL b := by
  induction a with
  | nil => rfl
  | cons x a ih => simp [flatL, ih]
theorem flatL_cons (t : Tk) (ks l : List Vt) : flatL (.mk t ks :: l) = t :: (flatL ks ++ (if clo t.k ≠ 0 then [shutTk t.k] else [])) ++ flatL l := by
  simp [flatL, flatV]
theorem hasL_cons (t : Tk) (ks l : List Vt) : hasL (.mk t ks :: l) = ((useT (.mk t []) || hasL ks) || hasL l) := by
  simp [hasL, hasV]
theorem hasL_app (a b : List Vt) : hasL (a ++ b) = (hasL a || hasL b) := by
  induction a with
  | nil => rfl
  | cons x a ih => simp [hasL, ih, Bool.or_assoc]
theorem flatL_len : ∀ l : List Vt, nodesL l ≤ (flatL l).length ∧ (flatL l).length ≤ 2 * nodesL l
  | [] => by simp [flatL, nodesL]
  | .mk t ks :: l => by
    have h1 := flatL_len ks
    have h2 := flatL_len l
    rw [flatL_cons]
    simp only [nodesL, Vt.nodes, List.length_append, List.length_cons]
    split <;> simp <;> omega
termination_by l => nodesL l
decreasing_by all_goals (simp [nodesL, Vt.nodes]; try omega)
theorem moreT_app (out a b : List Tk) : moreT out (a ++ b) = match moreT out a with | none => none | some o => moreT o b := by
  unfold moreT
  by_cases h : 512 < out.length + a.length
  · rw [if_pos h, if_pos (by simp; omega)]
  · rw [if_neg h]; simp [Nat.add_assoc]
theorem moreT_nil {out : List Tk} (h : out.length ≤ 512) : moreT out [] = some out := by
  unfold moreT; rw [if_neg (by simp; omega), List.append_nil]
theorem chk_leaf {n : Nat} {t : Tk} {ks : List Vt} (h : chkV n (.mk t ks) = true) (hc : clo t.k = 0) : ks = [] := by
  unfold chkV at h
  simp only [Bool.and_eq_true] at h
  have h2 := h.2
  rw [if_pos (show clo (Vt.mk t ks).t.k = 0 from hc)] at h2
  exact List.isEmpty_iff.1 h2
/-- values without a use are put as they are -/
theorem put_flat (k : Known) (n : Nat) : ∀ (l : List Vt) (out : List Tk), mayV n l = true → hasL l = false → out.length ≤ 512 → putR k (n + 1) out l = moreT out (flatL l) := by
  induction n using Nat.strongRecOn with | _ n IHn => ?_
  intro l
  induction l with
  | nil => intro out _ _ h; rw [putR_nil]; exact (moreT_nil h).symm
  | cons x l IHl =>
    intro out hm hh h
    obtain ⟨t, ks⟩ := x
    rw [hasL_cons] at hh
    simp only [Bool.or_eq_false_iff] at hh
    obtain ⟨⟨h1, h2⟩, h3⟩ := hh
    rw [mayV_all, List.all_cons, Bool.and_eq_true, ← mayV_all] at hm
    obtain ⟨hc, hm⟩ := hm
    rw [putR_cons, stepR_eq, if_neg (by rw [show useT (.mk t ks) = useT (.mk t []) from rfl, h1]; decide), flatL_cons]
    by_cases h0 : clo t.k = 0
    · have hk := chk_leaf hc h0
      subst hk
      rw [if_neg (by simpa using h0), if_neg (by simpa using h0)]
      rw [show t :: (flatL [] ++ []) ++ flatL l = [t] ++ flatL l from rfl, moreT_app]
      cases hq : moreT out [t] with
      | none => rfl
      | some o => exact IHl o hm h3 (moreT_len hq).2
    · obtain ⟨m, hnm, hmk⟩ := chk_open hc h0
      subst hnm
      rw [if_pos h0, if_pos h0]
      rw [show t :: (flatL ks ++ [shutTk t.k]) ++ flatL l = [t] ++ (flatL ks ++ ([shutTk t.k] ++ flatL l)) by simp, moreT_app]
      cases hq : moreT out [t] with
      | none => rfl
      | some o =>
        show (match openR k (m + 1) (some o) ks t.k with | none => none | some o => putR k (m + 1 + 1) o l) = moreT o _
        unfold openR
        rw [moreT_app]
        show (match openR1 (putR k (m + 1) o ks) t.k with | none => none | some o => putR k (m + 1 + 1) o l) = _
        rw [IHn m (by omega) ks o hmk h2 (moreT_len hq).2]
        cases hq2 : moreT o (flatL ks) with
        | none => rfl
        | some o2 =>
          show (match moreT o2 [shutTk t.k] with | none => none | some o => putR k (m + 1 + 1) o l) = moreT o2 _
          rw [moreT_app]
          cases hq3 : moreT o2 [shutTk t.k] with
          | none => rfl
          | some o3 => exact IHl o3 hm h3 (moreT_len hq3).2
/-- what is put holds no use, if what is known holds none -/
theorem put_free (k : Known) (hk : ∀ nm ts, k nm = some ts → ∀ t ∈ ts, useT (.mk t []) = false) : ∀ (n : Nat) (l : List Vt) (out o : List Tk), (∀ t ∈ out, useT (.mk t []) = false) → putR k n out l = some o → ∀ t ∈ o, useT (.mk t []) = false
  | 0, l, out, o, _, h => by simp [putR] at h
  | n + 1, [], out, o, ho, h => by rw [putR_nil] at h; cases h; exact ho
  | n + 1, .mk t ks :: l, out, o, ho, h => by
    have hsn : ∀ (a : List Tk) (b : Tk), (∀ t ∈ a, useT (.mk t []) = false) → useT (.mk b []) = false → ∀ t ∈ a ++ [b], useT (.mk t []) = false := fun a b h1 h2 t ht => by
      rcases List.mem_append.1 ht with h | h
      · exact h1 t h
      · rw [List.mem_singleton.1 h]; exact h2
    rw [putR_cons] at h
    cases hs : stepR k n out (.mk t ks) with
    | none => rw [hs] at h; cases h
    | some m =>
      rw [hs] at h
      refine put_free k hk (n + 1) l m o ?_ h
      rw [stepR_eq] at hs
      by_cases hu : useT (.mk t ks) = true
      · rw [if_pos hu] at hs
        unfold useR at hs
        cases hN : namedT (.mk t ks) with
        | none => rw [hN] at hs; cases hs
        | some y =>
          obtain ⟨nm, rest⟩ := y
          rw [hN] at hs
          simp only at hs
          cases hkn : k nm with
          | some ts =>
            rw [hkn] at hs
            obtain ⟨rfl, -⟩ := moreT_len hs
            intro x hx
            rcases List.mem_append.1 hx with h | h
            · exact ho x h
            · exact hk nm ts hkn x h
          | none =>
            rw [hkn] at hs
            simp only at hs
            split at hs
            · cases hs
            · exact put_free k hk n _ out m ho hs
      · have hu' : useT (.mk t []) = false := by rw [show useT (.mk t []) = useT (.mk t ks) from rfl]; simpa using hu
        rw [if_neg hu] at hs
        split at hs
        · rename_i hc
          unfold openR at hs
          cases hq : moreT out [t] with
          | none => rw [hq] at hs; cases hs
          | some o1 =>
            rw [hq] at hs
            simp only at hs
            cases hq2 : putR k n o1 ks with
            | none => rw [hq2] at hs; cases hs
            | some o2 =>
              rw [hq2] at hs
              obtain ⟨rfl, -⟩ := moreT_len hq
              obtain ⟨rfl, -⟩ := moreT_len (show moreT o2 [shutTk t.k] = some m from hs)
              refine hsn _ _ (put_free k hk n ks _ o2 (hsn _ _ ho hu') hq2) ?_
              have : clo t.k ≠ 2 := by rcases clo_cases t.k with h | h | h | h <;> rw [h] <;> decide
              show (decide (clo t.k = 2) && _) = false
              rw [decide_eq_false this]; rfl
        · obtain ⟨rfl, -⟩ := moreT_len hs
          exact hsn _ _ ho hu'
termination_by n l => (n, l.length)
/-- the stack, the innermost first -/
def addS (s : List Frm) (x : Vt) : List Frm := match s with | [] => [] | f :: r => ⟨f.tok, f.kids ++ [x]⟩ :: r
def stepS (s : List Frm) (t : Tk) : List Frm := match s with
  | [] => []
  | [f] => if clo t.k ≠ 0 then [⟨t, []⟩, f] else addS [f] (.mk t [])
  | f :: g :: r => if t.k = clo f.tok.k then addS (g :: r) (.mk f.tok f.kids) else if clo t.k ≠ 0 then ⟨t, []⟩ :: f :: g :: r else addS (f :: g :: r) (.mk t [])
def endS : List Frm → List Vt
  | [] => []
  | [f] => f.kids
  | f :: g :: r => endS (⟨g.tok, g.kids ++ [.mk f.tok f.kids]⟩ :: r)
termination_by s => s.length
theorem lastF_rev (f : Frm) (r : List Frm) : lastF (f :: r).reverse = f := by rw [List.reverse_cons, lastF_snoc]
theorem dropLast_rev (f : Frm) (r : List Frm) : (f :: r).reverse.dropLast = r.reverse := by rw [List.reverse_cons, List.dropLast_concat]
theorem addF_rev (f : Frm) (r : List Frm) (x : Vt) : addF (f :: r).reverse x = (addS (f :: r) x).reverse := by
  unfold addF addS
  rw [lastF_rev, dropLast_rev]; simp
theorem shutF_rev (f g : Frm) (r : List Frm) : shutF (f :: g :: r).reverse = (addS (g :: r) (.mk f.tok f.kids)).reverse := by
  unfold shutF
  rw [lastF_rev, dropLast_rev, addF_rev]
theorem stepF_rev (f : Frm) (r : List Frm) (t : Tk) : stepF (f :: r).reverse t = (stepS (f :: r) t).reverse := by
  unfold stepF
  rw [lastF_rev]
  cases r with
  | nil =>
    rw [if_neg (by simp)]
    unfold stepS
    simp only
    split
    · simp
    · exact addF_rev f [] _
  | cons g r =>
    unfold stepS
    simp only
    by_cases h : t.k = clo f.tok.k
    · rw [if_pos ⟨by simp, h⟩, if_pos h]; exact shutF_rev f g r
    · rw [if_neg (fun hh => h hh.2), if_neg h]
      split
      · simp
      · exact addF_rev f (g :: r) _
theorem stepS_ne {s : List Frm} (h : s ≠ []) (t : Tk) : stepS s t ≠ [] := by
  unfold stepS addS
  split
  · exact absurd rfl h
  · split <;> simp
  · split
    · simp
    · split <;> simp
theorem run_stack : ∀ (l : List Tk) (p : Ps) (s : List Frm), p.ls.length = p.os.length + 1 → s ≠ [] → p.frs = s.reverse → (l.foldl Ps.step p).frs = (l.foldl stepS s).reverse
  | [], p, s, _, _, h => h
  | t :: l, p, s, hl, hs, h => by
    rw [List.foldl_cons, List.foldl_cons]
    refine run_stack l _ _ (Ps.step_len hl t) (stepS_ne hs t) ?_
    rw [frs_step hl, h]
    cases s with
    | nil => exact absurd rfl hs
    | cons f r => exact stepF_rev f r t
theorem ends_stack : ∀ (n : Nat) (p : Ps) (s : List Frm), n = p.os.length → p.ls.length = p.os.length + 1 → p.frs = s.reverse → (Ps.ends n p).ls.headD [] = endS s
  | 0, p, s, hn, hl, h => by
    obtain ⟨os, ls⟩ := p
    simp only at *
    obtain rfl : os = [] := List.length_eq_zero_iff.1 hn.symm
    obtain ⟨l0, m, rfl, h0⟩ := snoc_of (n := 0) hl
    obtain rfl : l0 = [] := List.length_eq_zero_iff.1 h0
    have h2 : [⟨zeroTk, m⟩] = s.reverse := h
    obtain rfl : s = [⟨zeroTk, m⟩] := by rw [← List.reverse_reverse s, ← h2]; rfl
    simp [Ps.ends, endS]
  | n + 1, p, s, hn, hl, h => by
    have ho : p.os ≠ [] := fun e => by rw [e] at hn; simp at hn
    have hfl := frs_len hl
    rw [h, List.length_reverse, ← hn] at hfl
    obtain ⟨f, s1, rfl⟩ : ∃ f s1, s = f :: s1 := by cases s with | nil => simp at hfl | cons f s1 => exact ⟨f, s1, rfl⟩
    obtain ⟨g, r, rfl⟩ : ∃ g r, s1 = g :: r := by cases s1 with | nil => simp at hfl | cons f s1 => exact ⟨f, s1, rfl⟩
    have := ends_stack n p.shut (addS (g :: r) (.mk f.tok f.kids)) (by unfold Ps.shut; simp; omega) (Ps.shut_len hl ho) (by rw [frs_shut hl ho, h, shutF_rev])
    rw [show endS (f :: g :: r) = endS (addS (g :: r) (.mk f.tok f.kids)) by rw [endS]; rfl]
    exact this
theorem parse_stack (l : List Tk) : parse l = endS (l.foldl stepS [⟨zeroTk, []⟩]) := by
  unfold parse
  exact ends_stack _ _ _ rfl (Ps.run_len l) (run_stack l ⟨[], [[]]⟩ [⟨zeroTk, []⟩] rfl (by simp) rfl)
mutual
/-- values as reading makes them, in what such a kind closes -/
def nrmV : Int → Vt → Prop
  | c, .mk t ks => (c = 0 ∨ t.k ≠ c) ∧ nrmL (clo t.k) ks ∧ (clo t.k = 0 → ks = [])
def nrmL : Int → List Vt → Prop
  | _, [] => True
  | c, x :: l => nrmV c x ∧ nrmL c l
end
theorem nrmL_app (c : Int) (a b : List Vt) : nrmL c (a ++ b) ↔ nrmL c a ∧ nrmL c b := by
  induction a with
  | nil => simp [nrmL]
  | cons x a ih => simp [nrmL, ih, and_assoc]
theorem nrmL_one (c : Int) (t : Tk) (ks : List Vt) : nrmL c [.mk t ks] ↔ (c = 0 ∨ t.k ≠ c) ∧ nrmL (clo t.k) ks ∧ (clo t.k = 0 → ks = []) := by
  simp [nrmL, nrmV]
/-- a stack as reading makes it -/
def NrS : List Frm → Prop
  | [] => False
  | [f] => f.tok = zeroTk ∧ nrmL 0 f.kids
  | f :: g :: r => clo f.tok.k ≠ 0 ∧ nrmL (clo f.tok.k) f.kids ∧ NrS (g :: r)
theorem clo_open {k j : Int} (h : clo k ≠ 0) : k ≠ clo j := fun e => h (by rw [e]; exact clo_no j)
theorem NrS.add {f : Frm} {r : List Frm} {x : Vt} (h : NrS (f :: r)) (hx : nrmL (clo f.tok.k) [x]) : NrS (addS (f :: r) x) := by
  cases r with
  | nil =>
    obtain ⟨h1, h2⟩ := h
    rw [h1] at hx
    exact ⟨h1, (nrmL_app _ _ _).2 ⟨h2, hx⟩⟩
  | cons g r =>
    obtain ⟨h1, h2, h3⟩ := h
    exact ⟨h1, (nrmL_app _ _ _).2 ⟨h2, hx⟩, h3⟩
theorem NrS.leaf {f : Frm} {r : List Frm} {t : Tk} (h : NrS (f :: r)) (hc : clo t.k = 0) (ht : clo f.tok.k = 0 ∨ t.k ≠ clo f.tok.k) : NrS (addS (f :: r) (.mk t [])) :=
  h.add ((nrmL_one _ _ _).2 ⟨ht, by rw [nrmL]; trivial, fun _ => rfl⟩)
theorem NrS.shut {f g : Frm} {r : List Frm} (h : NrS (f :: g :: r)) : NrS (addS (g :: r) (.mk f.tok f.kids)) := by
  obtain ⟨h1, h2, h3⟩ := h
  exact h3.add ((nrmL_one _ _ _).2 ⟨.inr (clo_open h1), h2, fun e => absurd e h1⟩)
theorem NrS.step {s : List Frm} (h : NrS s) (t : Tk) : NrS (stepS s t) := by
  cases s with
  | nil => exact h.elim
  | cons f r =>
    cases r with
    | nil =>
      unfold stepS
      simp only
      split
      · rename_i hc; exact ⟨hc, by rw [nrmL]; trivial, h⟩
      · rename_i hc
        refine h.leaf (by simpa using hc) (.inl ?_)
        rw [h.1]; rfl
    | cons g r =>
      unfold stepS
      simp only
      split
      · exact h.shut
      · rename_i hk
        split
        · rename_i hc; exact ⟨hc, by rw [nrmL]; trivial, h⟩
        · rename_i hc; exact h.leaf (by simpa using hc) (.inr hk)
theorem NrS.run : ∀ (l : List Tk) (s : List Frm), NrS s → NrS (l.foldl stepS s)
  | [], _, h => h
  | t :: l, s, h => NrS.run l _ (h.step t)
theorem NrS.ends : ∀ (n : Nat) (s : List Frm), s.length = n → NrS s → nrmL 0 (endS s)
  | 0, s, hn, h => by rw [List.length_eq_zero_iff.1 hn] at h; exact h.elim
  | n + 1, s, hn, h => by
    cases s with
    | nil => exact h.elim
    | cons f r =>
      cases r with
      | nil => rw [endS]; exact h.2
      | cons g r =>
        rw [endS]
        exact NrS.ends n _ (by simpa using hn) h.shut
/-- what is read is as reading makes it -/
theorem parse_nrm (l : List Tk) : nrmL 0 (parse l) := by
  rw [parse_stack]
  exact NrS.ends _ _ rfl (NrS.run l _ ⟨rfl, by rw [nrmL]; trivial⟩)
/-- the tokens of values are read as those values -/
theorem fold_flat : ∀ (l : List Vt) (f : Frm) (r : List Frm), nrmL (clo f.tok.k) l → (r = [] ∨ clo f.tok.k ≠ 0) → (flatL l).foldl stepS (f :: r) = ⟨f.tok, f.kids ++ l⟩ :: r
  | [], f, r, _, _ => by simp [flatL]
  | .mk t ks :: l, f, r, hn, hr => by
    rw [nrmL, nrmV] at hn
    obtain ⟨⟨h1, h2, h3⟩, h4⟩ := hn
    rw [flatL_cons, List.foldl_append, List.foldl_cons, List.foldl_append]
    by_cases hc : clo t.k = 0
    · have hk := h3 hc
      subst hk
      have hs : stepS (f :: r) t = ⟨f.tok, f.kids ++ [Vt.mk t []]⟩ :: r := by
        cases r with
        | nil => unfold stepS; simp only; rw [if_neg (by simpa using hc)]; rfl
        | cons g r =>
          unfold stepS; simp only
          rcases hr with hr | hr
          · cases hr
          rcases h1 with h1 | h1
          · exact absurd h1 hr
          rw [if_neg h1, if_neg (by simpa using hc)]; rfl
      rw [hs, if_neg (by simpa using hc)]
      simp only [flatL, List.foldl_nil]
      rw [fold_flat l ⟨f.tok, f.kids ++ [Vt.mk t []]⟩ r h4 hr]
      simp
    · have hs : stepS (f :: r) t = ⟨t, []⟩ :: f :: r := by
        cases r with
        | nil => unfold stepS; simp only; rw [if_pos hc]
        | cons g r => unfold stepS; simp only; rw [if_neg (clo_open hc), if_pos hc]
      rw [hs, if_pos hc, fold_flat ks ⟨t, []⟩ (f :: r) h2 (.inr hc)]
      have hs2 : [shutTk t.k].foldl stepS (⟨t, [] ++ ks⟩ :: f :: r) = ⟨f.tok, f.kids ++ [Vt.mk t ks]⟩ :: r := by
        rw [List.foldl_cons, List.foldl_nil]
        unfold stepS
        simp only
        rw [if_pos (show (shutTk t.k).k = clo t.k from rfl)]
        simp [addS]
      rw [hs2, fold_flat l ⟨f.tok, f.kids ++ [Vt.mk t ks]⟩ r h4 hr]
      simp
termination_by l => nodesL l
decreasing_by all_goals (simp [nodesL, Vt.nodes]; try omega)
theorem parse_flat {v : List Vt} (h : nrmL 0 v) : parse (flatL v) = v := by
  rw [parse_stack, fold_flat v ⟨zeroTk, []⟩ [] h (.inl rfl), endS]
  simp
/-- tokens none of which is a use -/
def FrS (s : List Frm) : Prop := ∀ f ∈ s, useT (.mk f.tok []) = false ∧ hasL f.kids = false
theorem FrS.add {s : List Frm} {x : Vt} (h : FrS s) (hx : hasL [x] = false) : FrS (addS s x) := by
  cases s with
  | nil => exact h
  | cons f r =>
    intro g hg
    rcases List.mem_cons.1 hg with rfl | hg
    · obtain ⟨h1, h2⟩ := h f (by simp)
      exact ⟨h1, by simp only; rw [hasL_app, h2, hx]; rfl⟩
    · exact h g (by simp [hg])
theorem FrS.tail {f : Frm} {s : List Frm} (h : FrS (f :: s)) : FrS s := fun g hg => h g (by simp [hg])
theorem FrS.shut {f : Frm} {s : List Frm} (h : FrS (f :: s)) : FrS (addS s (.mk f.tok f.kids)) := by
  obtain ⟨h1, h2⟩ := h f (by simp)
  exact h.tail.add (by rw [hasL_cons, h1, h2]; rfl)
theorem FrS.push {t : Tk} {s : List Frm} (h : FrS s) (ht : useT (.mk t []) = false) : FrS (⟨t, []⟩ :: s) := fun g hg => by
  rcases List.mem_cons.1 hg with rfl | hg
  · exact ⟨ht, rfl⟩
  · exact h g hg
theorem FrS.step {s : List Frm} (h : FrS s) {t : Tk} (ht : useT (.mk t []) = false) : FrS (stepS s t) := by
  have hl : hasL [.mk t []] = false := by rw [hasL_cons, ht]; rfl
  unfold stepS
  split
  · exact h
  · split
    · exact h.push ht
    · exact h.add hl
  · split
    · exact h.shut
    · split
      · exact h.push ht
      · exact h.add hl
theorem FrS.run : ∀ (l : List Tk) (s : List Frm), FrS s → (∀ t ∈ l, useT (.mk t []) = false) → FrS (l.foldl stepS s)
  | [], _, h, _ => h
  | t :: l, s, h, ht => FrS.run l _ (h.step (ht t (by simp))) fun x hx => ht x (by simp [hx])
theorem FrS.ends : ∀ (n : Nat) (s : List Frm), s.length = n → FrS s → hasL (endS s) = false
  | 0, s, hn, h => by rw [List.length_eq_zero_iff.1 hn, endS]; rfl
  | n + 1, s, hn, h => by
    cases s with
    | nil => simp at hn
    | cons f r =>
      cases r with
      | nil => rw [endS]; exact (h f (by simp)).2
      | cons g r =>
        rw [endS]
        exact FrS.ends n _ (by simpa using hn) h.shut
theorem parse_free {l : List Tk} (h : ∀ t ∈ l, useT (.mk t []) = false) : hasL (parse l) = false := by
  rw [parse_stack]
  refine FrS.ends _ _ rfl (FrS.run l _ (fun f hf => ?_) h)
  rw [List.mem_singleton.1 hf]
  exact ⟨rfl, rfl⟩
theorem all_no {k : Known} {l : List Tk} (h : mayV 64 (parse l) = false) : putAll k l = ([], 1) := by unfold putAll; rw [if_pos h]
theorem all_flat {k : Known} {l : List Tk} (h : mayV 64 (parse l) = true) (hh : hasL (parse l) = false) : putAll k l = if 512 < (flatL (parse l)).length then ([], 11) else (flatL (parse l), 0) := by
  unfold putAll
  rw [if_neg (by rw [h]; decide), (putPR_same k 65 (parse l) [] (by decide)).1, put_flat k 64 _ _ h hh (by decide)]
  unfold moreT
  simp only [List.length_nil, Nat.zero_add, List.nil_append]
  by_cases h5 : 512 < (flatL (parse l)).length
  · rw [if_pos h5, if_pos h5]
  · rw [if_neg h5, if_neg h5]
    simp only
    rw [parse_flat (parse_nrm l), if_pos h]
theorem all_err {k : Known} {l : List Tk} (h : mayV 64 (parse l) = true) : putAll k l = ([], 11) ∨ ∃ o, putAll k l = (o, 0) ∧ o.length ≤ 512 ∧ ((∀ nm ts, k nm = some ts → ∀ t ∈ ts, useT (.mk t []) = false) → hasL (parse o) = false) := by
  unfold putAll
  rw [if_neg (by rw [h]; decide)]
  obtain ⟨h1, h2⟩ := putPR_same k 65 (parse l) [] (by decide)
  cases hp : putP k 65 [] (parse l) with
  | none => exact .inl rfl
  | some o =>
    simp only
    split
    · exact .inr ⟨o, rfl, h2 o hp, fun hk => parse_free (put_free k hk 65 _ _ o (fun t ht => by cases ht) (h1.symm.trans hp))⟩
    · exact .inl rfl
/-- does a token open something, or close it? -/
def joinT (t : Tk) : Bool := decide (clo t.k ≠ 0) || decide (t.k = 24) || decide (t.k = 22) || decide (t.k = 20)
theorem join_free {cus : List Cu} (h : ∀ c ∈ cus, c.ts.any joinT = false) : ∀ nm ts, findCu cus nm = some ts → ∀ t ∈ ts, useT (.mk t []) = false := by
  intro nm ts hf t ht
  unfold findCu at hf
  split at hf
  · cases hq : cus.reverse.find? (fun c => decide (c.n = nm)) with
    | none => rw [hq] at hf; cases hf
    | some c =>
      rw [hq] at hf
      cases hf
      have hc := List.mem_reverse.1 (List.mem_of_find?_eq_some hq)
      have hj := h c hc
      rw [List.any_eq_false] at hj
      have hjt := hj t ht
      have : t.k ≠ 2 := fun e => hjt (by unfold joinT; rw [e]; rfl)
      show (decide (t.k = 2) && _) = false
      rw [decide_eq_false this]; rfl
  · cases hf
end Go

/- WALKS over jalousieref5, jalousieref14, jalousielaw21: the tokens of values; is there a use; may tokens change what stands around them. No condition but bounds. -/
namespace Go.Proofs.YthcaphoejplecaaDoor
open Go.RowKit
/-- how Flat ends -/
def FlatPost (w : World) (l : List Vt) (e : Ending) (w' : World) : Prop := ∃ r, e = .returned r ∧ w.grows w' ∧ TkO w' w.heap.size r (flatL l)
abbrev FlatC (N : Nat) : Prop := ∀ (w : World) (S : Nat → Prop) (vl : Value) (l : List Vt), VsAt w S vl l → nodesL l ≤ N → N ≤ 4194304 → Calls Tryd.prog 15 #[vl] w (FlatPost w l)
theorem nodesL_take (i : Nat) (l : List Vt) : nodesL (l.take i) ≤ nodesL l := by
  have := nodesL_app (l.take i) (l.drop i)
  rw [List.take_append_drop] at this
  omega
theorem flatL_take {l : List Vt} {i : Nat} {x : Vt} (h : l[i]? = some x) : flatL (l.take (i + 1)) = flatL (l.take i) ++ flatV x := by
  rw [List.take_add_one, h, flatL_app]
  simp [flatL]
theorem hasL_take {l : List Vt} {i : Nat} {x : Vt} (h : l[i]? = some x) : hasL (l.take (i + 1)) = (hasL (l.take i) || hasV x) := by
  rw [List.take_add_one, h, hasL_app]
  simp [hasL]
set_option maxRecDepth 100000 in
set_option maxHeartbeats 8000000 in
theorem fflat_step (N : Nat) (IH : ∀ M, M < N → FlatC M) : FlatC N := by
  intro w S vl l h hn hN
  obtain ⟨aL, cL, rfl, hcap, hcap2⟩ := SlAt.len h
  have H := Lib.hid h
  have HIH := Lib.hid IH
  have HNN := Lib.hid (And.intro hn hN)
  clear IH h hn hN
  go_enter Tryd.func15, Tryd.ntmps15
  go_wp2_with fail
  go_loopg [3, 9] l.length (fun gn v3 v9 wj => ∃ (i : Nat) (o : List Tk) (a1 : Option Addr) (c1 : Nat), Hid (gn + i = l.length ∧ i ≤ l.length) ∧ v9 = .int .i64 i ∧ v3 = .slice a1 o.length c1 ∧ w.grows wj ∧ Hid (TkO wj w.heap.size (.slice a1 o.length c1) o ∧ o = flatL (l.take i)))
  case atStart => exact ⟨0, [], none, 0, Lib.hid ⟨by simp, Nat.zero_le _⟩, by go_num, rfl, (by repeat (with_reducible first | assumption | exact grA | apply grB | apply grC | apply grD | refine grE ?_ (by omega) _ | refine grF ?_ (by omega) _ _)), Lib.hid ⟨TkO.nil _ _, by simp [flatL]⟩⟩
  case round =>
    obtain ⟨i, o, a1, c1, HQ, rfl, rfl, hgj, HO⟩ := hrel
    obtain ⟨j1, j2⟩ := HQ.out
    by_cases hlt : i < l.length
    · have iI : (i : Int) < (l.length : Int) := by omega
      have hgt : l[i]? = some l[i] := List.getElem?_eq_getElem hlt
      obtain ⟨g, off, cs, rfl, -, -, k1, hv⟩ := H.out.elt hgt
      have hnod := nodesL_mem (List.getElem_mem hlt)
      have HFL := flatL_take hgt
      generalize l[i] = x at *
      obtain ⟨t, ks⟩ := x
      obtain ⟨twf, vk, rfl, hks⟩ := VOk_open hv
      obtain ⟨aK, cK, rfl, -, -⟩ := hks.len
      have HKS := Lib.hid hks
      have HTW := Lib.hid twf
      have HND := Lib.hid (show nodesL ks < N by have := HNN.out.1; simp [Vt.nodes] at hnod; omega)
      have hfl := flatL_len ks
      have hfl2 : (flatL ks).length ≤ 8388608 := by have := HND.out; have := HNN.out.2; omega
      have hol : o.length ≤ 8388608 := by
        rw [HO.out.2]
        have h1 := (flatL_len (l.take i)).2
        have h2 := nodesL_take i l
        have := HNN.out
        omega
      rw [← HO.out.2, flatV] at HFL
      have HFL := Lib.hid HFL
      have HOW := Lib.hid HO.out.1
      obtain ⟨kt, s, n1, d, q1, q2⟩ := t
      replace k1 := k1.grows hgj
      have z3 := lt_sz k1.lt
      obtain ⟨u1, u2⟩ := k1
      replace u1 : segOk (off + i * 7) 7 (wr.row g) = true := u1
      replace u2 : segV (off + i * 7) 7 (wr.row g) = .agg #[.int .i64 kt, .string s, .int .i64 n1, .int .i64 d, .bool q1, .bool q2, .slice aK ks.length cK] := u2
      have ii0 : (0 : Int) ≤ (i : Int) := by omega
      have iw : IntKind.i64.wrap ((i : Int) + 1) = (i : Int) + 1 := by rw [IntKind.wrap_i64]; omega
      clear hgt hv hks twf hnod hfl HO
      go_upto_region 5 with fail
      refine abs_rows (w := wr) (G := fun W => Code.wp _ _ _ _ W) (by repeat (with_reducible first | assumption | exact grA | apply grB | apply grC | apply grD | refine grE ?_ (by omega) _ | refine grF ?_ (by omega) _ _)) [(wr.heap.size, .cells #[.int .i64 kt, .string s, .int .i64 n1, .int .i64 d, .bool q1, .bool q2, .slice aK ks.length cK] 61)] (by simp [go_sem, *]) ?_
      intro w2 gw2 hl
      simp only [List.forall_mem_cons, List.not_mem_nil, false_implies, implies_true, and_true] at hl
      have x9 := hl
      have zx9 := row_sz' x9
      have hn9 : some wr.heap.size ≠ (Value.slice a1 o.length c1).ownBlock := fun e => by have := (HOW.out.1.lt _ e.symm).2; omega
      have hg2 := hgj.trans gw2
      have hs0 := hgj.below.size
      have hs2 := gw2.below.size
      have hgs1 : segOk 0 6 (some (.cells #[.int .i64 kt, .string s, .int .i64 n1, .int .i64 d, .bool q1, .bool q2, .slice aK ks.length cK] 61)) = true := rfl
      have hgs2 : segV 0 6 (some (.cells #[.int .i64 kt, .string s, .int .i64 n1, .int .i64 d, .bool q1, .bool q2, .slice aK ks.length cK] 61)) = .agg #[.int .i64 kt, .string s, .int .i64 n1, .int .i64 d, .bool q1, .bool q2] := rfl
      clear u1 u2 z3
      go_upto_region 6 with ((at_builtin; refine wpList_app w (w.heap.size) rfl (.tmp 13) (.tmp 16) _ rfl 53 (.agg #[.int .i64 0, .string ByteArray.empty, .int .i64 0, .int .i64 0, .bool false, .bool false]) 6 48 Tryd.underlying22 (by kernel_rfl) rfl (by omega) (by omega) _ o.length _ rfl ((HOW.out.1.grows (gw2.trans (by repeat (with_reducible first | assumption | exact grA | apply grB | apply grC | apply grD | refine grE ?_ (by omega) _ | refine grF ?_ (by omega) _ _))))) _ 1 _ [.int .i64 kt, .string s, .int .i64 n1, .int .i64 d, .bool q1, .bool q2] rfl rfl (cells_of_row (e := 53) (fr := (0, 0)) (by simp [go_sem])) (by simp [Value.oneCell']) (by omega) (by repeat (with_reducible first | assumption | exact grA | apply grB | apply grC | apply grD | refine grE ?_ (by omega) _ | refine grF ?_ (by omega) _ _)) (by omega) (by first | omega | (simp <;> omega)) ?_; intro v' w' hg' HO' HR' HG' HA'); (obtain ⟨a4, c4, rfl⟩ := own_slice HO'.out))
      have y9 := rowG x9 HG'.out (by repeat (with_reducible first | assumption | exact grA | apply grB | apply grC | apply grD | refine grE ?_ (by omega) _ | refine grF ?_ (by omega) _ _)) hn9
      have zy9 := row_sz' y9
      have hO4 : Hid (TkO w' w.heap.size (.slice a4 (o.length + 1) c4) (o ++ [⟨kt, s, n1, d, q1, q2⟩])) := Lib.hid ⟨by simpa using HO'.out, fun t ht => by
        rcases List.mem_append.1 ht with h1 | h1
        · exact HOW.out.2 t h1
        · rw [List.mem_singleton.1 h1]; exact HTW.out⟩
      have HO4 : Hid (w'.ownsRow w.heap.size 53 6 (.slice a4 (o.length + 1) c4) (o.length + 1) ((o ++ [(⟨kt, s, n1, d, q1, q2⟩ : Tk)]).flatMap Tk.cs)) := Lib.hid (by simpa using HO'.out)
      have hle4 : (o ++ [(⟨kt, s, n1, d, q1, q2⟩ : Tk)]).length = o.length + 1 := by simp
      have hsw := HG'.out.size
      have HFK : Hid (∀ (W : World), w.grows W → Calls Tryd.prog 15 #[.slice aK ks.length cK] W (FlatPost W ks)) := Lib.hid fun W hgW => HIH.out (nodesL ks) HND.out W _ _ ks (VsAt.grows HKS.out hgW) (Nat.le_refl _) (by have := HND.out; have := HNN.out.2; omega)
      have hs6 := hg'.below.size
      have HA4 := Lib.hid HA'.out
      have HFO := Lib.hid (one_tks (flatL ks))
      go_upto_region 7 with (first | (go_at_call 15; go_loud ((with_reducible refine (HFK.out _ (hg'.trans (by repeat (with_reducible first | assumption | exact grA | apply grB | apply grC | apply grD | refine grE ?_ (by omega) _ | refine grF ?_ (by omega) _ _)))).mono ?_); rintro r w7 ⟨v7, rfl, hg7, ho7⟩; (obtain ⟨a7, c7, rfl⟩ := own_slice ho7.1); (obtain ⟨tl1, tl2, tl3⟩ := tks_cells (ho7.slAt (S := fun _ => True) fun _ _ _ => trivial)); (have HL1 := Lib.hid tl1); (have HL3 := Lib.hid tl3); (have HO7 := Lib.hid ho7.2); (have hgx : World.grows w' w7 := World.grows.trans (by repeat (with_reducible first | assumption | exact grA | apply grB | apply grC | apply grD | refine grE ?_ (by omega) _ | refine grF ?_ (by omega) _ _)) hg7); (have hs7 := hgx.below.size); (have hgw7 := hg'.trans hgx); (have y97 := (hgx.row_eq zy9.1).trans y9); clear hg7 ho7 tl1 tl2 tl3)) | ((at_builtin; refine wpList_appS w (w.heap.size) rfl (.tmp 18) (.tmp 21) _ rfl 53 (.agg #[.int .i64 0, .string ByteArray.empty, .int .i64 0, .int .i64 0, .bool false, .bool false]) 6 48 Tryd.underlying22 (by kernel_rfl) rfl (by omega) (by omega) _ (o.length + 1) _ rfl ((HO4.out.grows (hgx.trans (by repeat (with_reducible first | assumption | exact grA | apply grB | apply grC | apply grD | refine grE ?_ (by omega) _ | refine grF ?_ (by omega) _ _))))) _ (flatL ks).length _ ((flatL ks).flatMap Tk.cs) rfl HL1.out HL3.out HFO.out (by omega) (by repeat (with_reducible first | assumption | exact grA | apply grB | apply grC | apply grD | refine grE ?_ (by omega) _ | refine grF ?_ (by omega) _ _)) (by omega) (by first | omega | (simp <;> omega)) ?_; intro v' w' hg' HO' HR' HG' HA'); (obtain ⟨a8, c8, rfl⟩ := own_slice HO'.out)))
      have hn94 : some wr.heap.size ≠ (Value.slice a4 (o.length + 1) c4).ownBlock := fun e => by
        rcases HA4.out with e1 | e1
        · exact hn9 (e.trans e1)
        · rw [e1] at e; injection e with e; (have hh : wr.heap.size < w2.heap.size := zx9.1); simp at e; omega
      have y98 := rowG y97 HG'.out World.grows.refl hn94
      have zy98 := row_sz' y98
      have HO8 : Hid (w'.ownsRow w.heap.size 53 6 (.slice a8 (o.length + 1 + (flatL ks).length) c8) (o.length + 1 + (flatL ks).length) ((o ++ [(⟨kt, s, n1, d, q1, q2⟩ : Tk)] ++ flatL ks).flatMap Tk.cs)) := Lib.hid (by rw [List.flatMap_append]; exact HO'.out)
      have HW8 : Hid (∀ t ∈ o ++ [(⟨kt, s, n1, d, q1, q2⟩ : Tk)] ++ flatL ks, t.Wf) := Lib.hid fun t ht => by
        rcases List.mem_append.1 ht with h1 | h1
        · exact hO4.out.2 t h1
        · exact HO7.out t h1
      have hg8 := hg'
      clear HG' HA' HR' HO' HA4 HO4 hO4 HL1 HL3 HO7 HFO HFK y9 zy9 x9 zx9 y97 hgx hg'
      have hL8 : (o ++ [(⟨kt, s, n1, d, q1, q2⟩ : Tk)] ++ flatL ks).length = o.length + 1 + (flatL ks).length := by simp; omega
      have hL9 : (o ++ [(⟨kt, s, n1, d, q1, q2⟩ : Tk)] ++ flatL ks ++ [shutTk kt]).length = o.length + 1 + (flatL ks).length + 1 := by simp; omega
      by_cases hc : clo kt = 0
      · have hcb : (clo kt == 0) = true := by rw [hc]; rfl
        have HFL2 : Hid (flatL (l.take (i + 1)) = o ++ [(⟨kt, s, n1, d, q1, q2⟩ : Tk)] ++ flatL ks) := Lib.hid (by rw [HFL.out]; simp [hc])
        go_wp2_with ((go_at_call 28; (with_reducible refine (fclo_any kt _).mono ?_); rintro e w1 ⟨rfl, x1, rfl⟩))
        go_roundg (l.length - (i + 1))
        case measure => omega
        case rel => exact ⟨i + 1, _, a8, c8, Lib.hid ⟨by omega, by omega⟩, by go_num, by rw [hL8], hg8.trans (by repeat (with_reducible first | assumption | exact grA | apply grB | apply grC | apply grD | refine grE ?_ (by omega) _ | refine grF ?_ (by omega) _ _)), Lib.hid ⟨⟨by rw [hL8]; exact HO8.out.grows (by repeat (with_reducible first | assumption | exact grA | apply grB | apply grC | apply grD | refine grE ?_ (by omega) _ | refine grF ?_ (by omega) _ _)), HW8.out⟩, HFL2.out.symm⟩⟩
      · have hcb : (clo kt == 0) = false := by simpa using hc
        have HFL2 : Hid (flatL (l.take (i + 1)) = o ++ [(⟨kt, s, n1, d, q1, q2⟩ : Tk)] ++ flatL ks ++ [shutTk kt]) := Lib.hid (by rw [HFL.out]; simp [hc])
        have hsz8 := hg8.below.size
        go_wp2_with (first | (go_at_call 28; (with_reducible refine (fclo_any kt _).mono ?_); rintro e w1 ⟨rfl, x1, rfl⟩) | ((at_builtin; refine wpList_app w (w.heap.size) rfl (.tmp 29) (.tmp 32) _ rfl 53 (.agg #[.int .i64 0, .string ByteArray.empty, .int .i64 0, .int .i64 0, .bool false, .bool false]) 6 48 Tryd.underlying22 (by kernel_rfl) rfl (by omega) (by omega) _ (o.length + 1 + (flatL ks).length) _ rfl ((HO8.out.grows (by repeat (with_reducible first | assumption | exact grA | apply grB | apply grC | apply grD | refine grE ?_ (by omega) _ | refine grF ?_ (by omega) _ _)))) _ 1 _ [.int .i64 (clo kt), .string ⟨#[]⟩, .int .i64 0, .int .i64 0, .bool false, .bool false] rfl rfl (cells_of_row (e := 53) (fr := (0, 0)) (by simp [go_sem])) (by simp [Value.oneCell']) (by omega) (by repeat (with_reducible first | assumption | exact grA | apply grB | apply grC | apply grD | refine grE ?_ (by omega) _ | refine grF ?_ (by omega) _ _)) (by omega) (by first | omega | (simp <;> omega)) ?_; intro v' w' hg' HO' HR' HG' HA'); (obtain ⟨a9, c9, rfl⟩ := own_slice HO'.out)))
        go_roundg (l.length - (i + 1))
        case measure => omega
        case rel =>
          refine ⟨i + 1, _, a9, c9, Lib.hid ⟨by omega, by omega⟩, by go_num, by rw [hL9], hg', Lib.hid ⟨⟨?_, fun t ht => ?_⟩, HFL2.out.symm⟩⟩
          · rw [hL9, List.flatMap_append]; exact HO'.out
          · rcases List.mem_append.1 ht with h1 | h1
            · exact HW8.out t h1
            · rw [List.mem_singleton.1 h1]; exact shutTk_wf kt
    · have iI : ¬ (i : Int) < (l.length : Int) := by omega
      obtain rfl : i = l.length := by omega
      have hr := HO.out
      rw [List.take_length] at hr
      go_wp2_with fail
      go_ret
      refine ⟨_, rfl, hgj.trans (by repeat (with_reducible first | assumption | exact grA | apply grB | apply grC | apply grD | refine grE ?_ (by omega) _ | refine grF ?_ (by omega) _ _)), ?_⟩
      rw [← hr.2]
      exact ⟨hr.1.1.grows (by repeat (with_reducible first | assumption | exact grA | apply grB | apply grC | apply grD | refine grE ?_ (by omega) _ | refine grF ?_ (by omega) _ _)), hr.1.2⟩
theorem fflat_any (N : Nat) : FlatC N := by
  induction N using Nat.strongRecOn with
  | _ N ih => exact fflat_step N ih
/-- how look ends -/
def LookPost (w : World) (l : List Vt) (e : Ending) (w' : World) : Prop := ∃ b : Bool, e = .returned (.tuple #[.bool (hasL l), .bool b]) ∧ w.grows w'
abbrev LookC (N : Nat) : Prop := ∀ (w : World) (S : Nat → Prop) (vl : Value) (l : List Vt), VsAt w S vl l → nodesL l ≤ N → Calls Tryd.prog 31 #[vl] w (LookPost w l)
set_option maxRecDepth 100000 in
set_option maxHeartbeats 8000000 in
theorem flook_step (N : Nat) (IH : ∀ M, M < N → LookC M) : LookC N := by
  intro w S vl l h hn
  obtain ⟨aL, cL, rfl, hcap, hcap2⟩ := SlAt.len h
  have H := Lib.hid h
  have HIH := Lib.hid IH
  have HNN := Lib.hid hn
  clear IH h hn
  go_enter Tryd.func31, Tryd.ntmps31
  go_wp2_with fail
  go_loopg [4, 5, 16] l.length (fun gn v4 v5 v16 wj => ∃ (i : Nat) (b c : Bool), Hid (gn + i = l.length ∧ i ≤ l.length) ∧ v16 = .int .i64 i ∧ v4 = .bool b ∧ v5 = .bool c ∧ w.grows wj ∧ Hid (b = hasL (l.take i)))
  case atStart => exact ⟨0, false, false, Lib.hid ⟨by simp, Nat.zero_le _⟩, by go_num, rfl, rfl, (by repeat (with_reducible first | assumption | exact grA | apply grB | apply grC | apply grD | refine grE ?_ (by omega) _ | refine grF ?_ (by omega) _ _)), Lib.hid (by simp [hasL])⟩
  case round =>
    obtain ⟨i, b, c, HQ, rfl, rfl, rfl, hgj, HB⟩ := hrel
    obtain ⟨j1, j2⟩ := HQ.out
    by_cases hlt : i < l.length
    · have iI : (i : Int) < (l.length : Int) := by omega
      have hgt : l[i]? = some l[i] := List.getElem?_eq_getElem hlt
      obtain ⟨g, off, cs, rfl, -, -, k1, hv⟩ := H.out.elt hgt
      have hnod := nodesL_mem (List.getElem_mem hlt)
      have HFL := hasL_take hgt
      generalize l[i] = x at *
      obtain ⟨t, ks⟩ := x
      obtain ⟨twf, vk, rfl, hks⟩ := VOk_open hv
      obtain ⟨aK, cK, rfl, -, -⟩ := hks.len
      have HKS := Lib.hid hks
      have HLK : Hid (∀ (W : World), w.grows W → Calls Tryd.prog 31 #[.slice aK ks.length cK] W (LookPost W ks)) := Lib.hid fun W hgW => HIH.out (nodesL ks) (by have := HNN.out; simp [Vt.nodes] at hnod; omega) W _ _ ks (VsAt.grows HKS.out hgW) (Nat.le_refl _)
      have HU := Lib.hid (fun (W : World) => fuse_any t twf aK ks.length cK ks W)
      have HUSE := Lib.hid (fun (W : World) (hg : w.grows W) => fUse_any (t := t) (w := W) (VsAt.grows hks hg))
      rw [← HB.out, hasV, show useT (.mk t []) = useT (.mk t ks) from rfl] at HFL
      have HFL := Lib.hid HFL
      obtain ⟨kt, s, n1, d, q1, q2⟩ := t
      replace k1 := k1.grows hgj
      have z3 := lt_sz k1.lt
      obtain ⟨u1, u2⟩ := k1
      replace u1 : segOk (off + i * 7) 7 (wr.row g) = true := u1
      replace u2 : segV (off + i * 7) 7 (wr.row g) = .agg #[.int .i64 kt, .string s, .int .i64 n1, .int .i64 d, .bool q1, .bool q2, .slice aK ks.length cK] := u2
      have ii0 : (0 : Int) ≤ (i : Int) := by omega
      have iw : IntKind.i64.wrap ((i : Int) + 1) = (i : Int) + 1 := by rw [IntKind.wrap_i64]; omega
      clear hgt hv hks twf hnod
      generalize useT (.mk ⟨kt, s, n1, d, q1, q2⟩ ks) = bu at *
      go_upto_region 5 with fail
      refine abs_rows (w := wr) (G := fun W => Code.wp _ _ _ _ W) (by repeat (with_reducible first | assumption | exact grA | apply grB | apply grC | apply grD | refine grE ?_ (by omega) _ | refine grF ?_ (by omega) _ _)) [(wr.heap.size, .cells #[.int .i64 kt, .string s, .int .i64 n1, .int .i64 d, .bool q1, .bool q2, .slice aK ks.length cK] 61)] (by simp [go_sem, *]) ?_
      intro w2 gw2 hl
      simp only [List.forall_mem_cons, List.not_mem_nil, false_implies, implies_true, and_true] at hl
      have x9 := hl
      have zx9 := row_sz' x9
      have hg2 := hgj.trans gw2
      clear u1 u2 z3
      cases bu with
      | false =>
        cases b with
        | false =>
          cases c with
          | false =>
            go_wp2_with (first | (go_at_call 43; (with_reducible refine (HU.out _).mono ?_); rintro e w1 ⟨rfl, x1, rfl⟩) | (go_at_call 31; go_loud ((with_reducible refine (HLK.out _ (hg2.trans (by repeat (with_reducible first | assumption | exact grA | apply grB | apply grC | apply grD | refine grE ?_ (by omega) _ | refine grF ?_ (by omega) _ _)))).mono ?_); rintro r w7 ⟨cb, rfl, hg7⟩)))
            go_roundg (l.length - (i + 1))
            case measure => omega
            case rel => exact ⟨i + 1, _, _, Lib.hid ⟨by omega, by omega⟩, by go_num, rfl, rfl, hg2.trans ((show World.grows _ _ from World.grows.trans (by repeat (with_reducible first | assumption | exact grA | apply grB | apply grC | apply grD | refine grE ?_ (by omega) _ | refine grF ?_ (by omega) _ _)) hg7).trans (by repeat (with_reducible first | assumption | exact grA | apply grB | apply grC | apply grD | refine grE ?_ (by omega) _ | refine grF ?_ (by omega) _ _))), Lib.hid (by rw [HFL.out]; simp)⟩
          | true =>
            go_wp2_with (first | (go_at_call 43; (with_reducible refine (HU.out _).mono ?_); rintro e w1 ⟨rfl, x1, rfl⟩) | (go_at_call 31; go_loud ((with_reducible refine (HLK.out _ (hg2.trans (by repeat (with_reducible first | assumption | exact grA | apply grB | apply grC | apply grD | refine grE ?_ (by omega) _ | refine grF ?_ (by omega) _ _)))).mono ?_); rintro r w7 ⟨cb, rfl, hg7⟩)))
            go_roundg (l.length - (i + 1))
            case measure => omega
            case rel => exact ⟨i + 1, _, _, Lib.hid ⟨by omega, by omega⟩, by go_num, rfl, rfl, hg2.trans ((show World.grows _ _ from World.grows.trans (by repeat (with_reducible first | assumption | exact grA | apply grB | apply grC | apply grD | refine grE ?_ (by omega) _ | refine grF ?_ (by omega) _ _)) hg7).trans (by repeat (with_reducible first | assumption | exact grA | apply grB | apply grC | apply grD | refine grE ?_ (by omega) _ | refine grF ?_ (by omega) _ _))), Lib.hid (by rw [HFL.out]; simp)⟩
        | true =>
          cases c with
          | false =>
            go_wp2_with (first | (go_at_call 43; (with_reducible refine (HU.out _).mono ?_); rintro e w1 ⟨rfl, x1, rfl⟩) | (go_at_call 31; go_loud ((with_reducible refine (HLK.out _ (hg2.trans (by repeat (with_reducible first | assumption | exact grA | apply grB | apply grC | apply grD | refine grE ?_ (by omega) _ | refine grF ?_ (by omega) _ _)))).mono ?_); rintro r w7 ⟨cb, rfl, hg7⟩)))
            go_roundg (l.length - (i + 1))
            case measure => omega
            case rel => exact ⟨i + 1, _, _, Lib.hid ⟨by omega, by omega⟩, by go_num, rfl, rfl, hg2.trans ((show World.grows _ _ from World.grows.trans (by repeat (with_reducible first | assumption | exact grA | apply grB | apply grC | apply grD | refine grE ?_ (by omega) _ | refine grF ?_ (by omega) _ _)) hg7).trans (by repeat (with_reducible first | assumption | exact grA | apply grB | apply grC | apply grD | refine grE ?_ (by omega) _ | refine grF ?_ (by omega) _ _))), Lib.hid (by rw [HFL.out]; simp)⟩
          | true =>
            go_wp2_with (first | (go_at_call 43; (with_reducible refine (HU.out _).mono ?_); rintro e w1 ⟨rfl, x1, rfl⟩) | (go_at_call 31; go_loud ((with_reducible refine (HLK.out _ (hg2.trans (by repeat (with_reducible first | assumption | exact grA | apply grB | apply grC | apply grD | refine grE ?_ (by omega) _ | refine grF ?_ (by omega) _ _)))).mono ?_); rintro r w7 ⟨cb, rfl, hg7⟩)))
            go_roundg (l.length - (i + 1))
            case measure => omega
            case rel => exact ⟨i + 1, _, _, Lib.hid ⟨by omega, by omega⟩, by go_num, rfl, rfl, hg2.trans ((show World.grows _ _ from World.grows.trans (by repeat (with_reducible first | assumption | exact grA | apply grB | apply grC | apply grD | refine grE ?_ (by omega) _ | refine grF ?_ (by omega) _ _)) hg7).trans (by repeat (with_reducible first | assumption | exact grA | apply grB | apply grC | apply grD | refine grE ?_ (by omega) _ | refine grF ?_ (by omega) _ _))), Lib.hid (by rw [HFL.out]; simp)⟩
      | true =>
        cases hN : namedT (.mk ⟨kt, s, n1, d, q1, q2⟩ ks) with
        | none =>
          rw [hN] at HUSE
          clear hN
          go_wp2_with (first | (go_at_call 43; (with_reducible refine (HU.out _).mono ?_); rintro e w1 ⟨rfl, x1, rfl⟩) | (go_at_call 44; go_loud ((with_reducible refine (HUSE.out _ (hg2.trans (by repeat (with_reducible first | assumption | exact grA | apply grB | apply grC | apply grD | refine grE ?_ (by omega) _ | refine grF ?_ (by omega) _ _)))).mono ?_); rintro r w5 ⟨hg5, rfl⟩; replace hg5 : w2.grows w5 := World.grows.trans (by repeat (with_reducible first | assumption | exact grA | apply grB | apply grC | apply grD | refine grE ?_ (by omega) _ | refine grF ?_ (by omega) _ _)) hg5; (have x95 := (hg5.row_eq zx9.1).trans x9); (have zx95 := row_sz' x95))) | (go_at_call 31; go_loud ((with_reducible refine (HLK.out _ ((hg2.trans hg5).trans (by repeat (with_reducible first | assumption | exact grA | apply grB | apply grC | apply grD | refine grE ?_ (by omega) _ | refine grF ?_ (by omega) _ _)))).mono ?_); rintro r w7 ⟨cb, rfl, hg7⟩; replace hg2 := (hg2.trans hg5))))
          go_roundg (l.length - (i + 1))
          case measure => omega
          case rel => exact ⟨i + 1, _, _, Lib.hid ⟨by omega, by omega⟩, by go_num, rfl, rfl, hg2.trans ((show World.grows _ _ from World.grows.trans (by repeat (with_reducible first | assumption | exact grA | apply grB | apply grC | apply grD | refine grE ?_ (by omega) _ | refine grF ?_ (by omega) _ _)) hg7).trans (by repeat (with_reducible first | assumption | exact grA | apply grB | apply grC | apply grD | refine grE ?_ (by omega) _ | refine grF ?_ (by omega) _ _))), Lib.hid (by rw [HFL.out]; simp)⟩
        | some y =>
          obtain ⟨nm, rest⟩ := y
          rw [hN] at HUSE
          clear hN
          cases rest with
          | nil =>
            cases c with
            | false =>
              go_wp2_with (first | (go_at_call 43; (with_reducible refine (HU.out _).mono ?_); rintro e w1 ⟨rfl, x1, rfl⟩) | (go_at_call 44; go_loud ((with_reducible refine (HUSE.out _ (hg2.trans (by repeat (with_reducible first | assumption | exact grA | apply grB | apply grC | apply grD | refine grE ?_ (by omega) _ | refine grF ?_ (by omega) _ _)))).mono ?_); rintro r w5 ⟨hg5, rfl⟩; replace hg5 : w2.grows w5 := World.grows.trans (by repeat (with_reducible first | assumption | exact grA | apply grB | apply grC | apply grD | refine grE ?_ (by omega) _ | refine grF ?_ (by omega) _ _)) hg5; (have x95 := (hg5.row_eq zx9.1).trans x9); (have zx95 := row_sz' x95))) | (go_at_call 31; go_loud ((with_reducible refine (HLK.out _ ((hg2.trans hg5).trans (by repeat (with_reducible first | assumption | exact grA | apply grB | apply grC | apply grD | refine grE ?_ (by omega) _ | refine grF ?_ (by omega) _ _)))).mono ?_); rintro r w7 ⟨cb, rfl, hg7⟩; replace hg2 := (hg2.trans hg5))))
              go_roundg (l.length - (i + 1))
              case measure => omega
              case rel => exact ⟨i + 1, _, _, Lib.hid ⟨by omega, by omega⟩, by go_num, rfl, rfl, hg2.trans ((show World.grows _ _ from World.grows.trans (by repeat (with_reducible first | assumption | exact grA | apply grB | apply grC | apply grD | refine grE ?_ (by omega) _ | refine grF ?_ (by omega) _ _)) hg7).trans (by repeat (with_reducible first | assumption | exact grA | apply grB | apply grC | apply grD | refine grE ?_ (by omega) _ | refine grF ?_ (by omega) _ _))), Lib.hid (by rw [HFL.out]; simp)⟩
            | true =>
              go_wp2_with (first | (go_at_call 43; (with_reducible refine (HU.out _).mono ?_); rintro e w1 ⟨rfl, x1, rfl⟩) | (go_at_call 44; go_loud ((with_reducible refine (HUSE.out _ (hg2.trans (by repeat (with_reducible first | assumption | exact grA | apply grB | apply grC | apply grD | refine grE ?_ (by omega) _ | refine grF ?_ (by omega) _ _)))).mono ?_); rintro r w5 ⟨hg5, rfl⟩; replace hg5 : w2.grows w5 := World.grows.trans (by repeat (with_reducible first | assumption | exact grA | apply grB | apply grC | apply grD | refine grE ?_ (by omega) _ | refine grF ?_ (by omega) _ _)) hg5; (have x95 := (hg5.row_eq zx9.1).trans x9); (have zx95 := row_sz' x95))) | (go_at_call 31; go_loud ((with_reducible refine (HLK.out _ ((hg2.trans hg5).trans (by repeat (with_reducible first | assumption | exact grA | apply grB | apply grC | apply grD | refine grE ?_ (by omega) _ | refine grF ?_ (by omega) _ _)))).mono ?_); rintro r w7 ⟨cb, rfl, hg7⟩; replace hg2 := (hg2.trans hg5))))
              go_roundg (l.length - (i + 1))
              case measure => omega
              case rel => exact ⟨i + 1, _, _, Lib.hid ⟨by omega, by omega⟩, by go_num, rfl, rfl, hg2.trans ((show World.grows _ _ from World.grows.trans (by repeat (with_reducible first | assumption | exact grA | apply grB | apply grC | apply grD | refine grE ?_ (by omega) _ | refine grF ?_ (by omega) _ _)) hg7).trans (by repeat (with_reducible first | assumption | exact grA | apply grB | apply grC | apply grD | refine grE ?_ (by omega) _ | refine grF ?_ (by omega) _ _))), Lib.hid (by rw [HFL.out]; simp)⟩
          | cons z rest =>
            cases c with
            | false =>
              go_wp2_with (first | (go_at_call 43; (with_reducible refine (HU.out _).mono ?_); rintro e w1 ⟨rfl, x1, rfl⟩) | (go_at_call 44; go_loud ((with_reducible refine (HUSE.out _ (hg2.trans (by repeat (with_reducible first | assumption | exact grA | apply grB | apply grC | apply grD | refine grE ?_ (by omega) _ | refine grF ?_ (by omega) _ _)))).mono ?_); rintro r w5 ⟨hg5, vu, rfl, -⟩; replace hg5 : w2.grows w5 := World.grows.trans (by repeat (with_reducible first | assumption | exact grA | apply grB | apply grC | apply grD | refine grE ?_ (by omega) _ | refine grF ?_ (by omega) _ _)) hg5; (have x95 := (hg5.row_eq zx9.1).trans x9); (have zx95 := row_sz' x95))) | (go_at_call 31; go_loud ((with_reducible refine (HLK.out _ ((hg2.trans hg5).trans (by repeat (with_reducible first | assumption | exact grA | apply grB | apply grC | apply grD | refine grE ?_ (by omega) _ | refine grF ?_ (by omega) _ _)))).mono ?_); rintro r w7 ⟨cb, rfl, hg7⟩; replace hg2 := (hg2.trans hg5))))
              go_roundg (l.length - (i + 1))
              case measure => omega
              case rel => exact ⟨i + 1, _, _, Lib.hid ⟨by omega, by omega⟩, by go_num, rfl, rfl, hg2.trans ((show World.grows _ _ from World.grows.trans (by repeat (with_reducible first | assumption | exact grA | apply grB | apply grC | apply grD | refine grE ?_ (by omega) _ | refine grF ?_ (by omega) _ _)) hg7).trans (by repeat (with_reducible first | assumption | exact grA | apply grB | apply grC | apply grD | refine grE ?_ (by omega) _ | refine grF ?_ (by omega) _ _))), Lib.hid (by rw [HFL.out]; simp)⟩
            | true =>
              go_wp2_with (first | (go_at_call 43; (with_reducible refine (HU.out _).mono ?_); rintro e w1 ⟨rfl, x1, rfl⟩) | (go_at_call 44; go_loud ((with_reducible refine (HUSE.out _ (hg2.trans (by repeat (with_reducible first | assumption | exact grA | apply grB | apply grC | apply grD | refine grE ?_ (by omega) _ | refine grF ?_ (by omega) _ _)))).mono ?_); rintro r w5 ⟨hg5, vu, rfl, -⟩; replace hg5 : w2.grows w5 := World.grows.trans (by repeat (with_reducible first | assumption | exact grA | apply grB | apply grC | apply grD | refine grE ?_ (by omega) _ | refine grF ?_ (by omega) _ _)) hg5; (have x95 := (hg5.row_eq zx9.1).trans x9); (have zx95 := row_sz' x95))) | (go_at_call 31; go_loud ((with_reducible refine (HLK.out _ ((hg2.trans hg5).trans (by repeat (with_reducible first | assumption | exact grA | apply grB | apply grC | apply grD | refine grE ?_ (by omega) _ | refine grF ?_ (by omega) _ _)))).mono ?_); rintro r w7 ⟨cb, rfl, hg7⟩; replace hg2 := (hg2.trans hg5))))
              go_roundg (l.length - (i + 1))
              case measure => omega
              case rel => exact ⟨i + 1, _, _, Lib.hid ⟨by omega, by omega⟩, by go_num, rfl, rfl, hg2.trans ((show World.grows _ _ from World.grows.trans (by repeat (with_reducible first | assumption | exact grA | apply grB | apply grC | apply grD | refine grE ?_ (by omega) _ | refine grF ?_ (by omega) _ _)) hg7).trans (by repeat (with_reducible first | assumption | exact grA | apply grB | apply grC | apply grD | refine grE ?_ (by omega) _ | refine grF ?_ (by omega) _ _))), Lib.hid (by rw [HFL.out]; simp)⟩
    · have iI : ¬ (i : Int) < (l.length : Int) := by omega
      obtain rfl : i = l.length := by omega
      have hr := HB.out
      rw [List.take_length] at hr
      go_wp2_with fail
      go_ret2
      exact ⟨_, rfl, hgj.trans (by repeat (with_reducible first | assumption | exact grA | apply grB | apply grC | apply grD | refine grE ?_ (by omega) _ | refine grF ?_ (by omega) _ _))⟩
theorem flook_any (N : Nat) : LookC N := by
  induction N using Nat.strongRecOn with
  | _ N ih => exact flook_step N ih
set_option maxRecDepth 100000 in
/-- is there a use? -/
theorem fvars_any {w : World} {S : Nat → Prop} {vl : Value} {l : List Vt} (h : VsAt w S vl l) : Calls Tryd.prog 14 #[vl] w (Gives w (.bool (hasL l))) := by
  obtain ⟨aL, cL, rfl, -, -⟩ := SlAt.len h
  have HLK := Lib.hid (fun (W : World) (hg : w.grows W) => flook_any (nodesL l) W S _ l (VsAt.grows h hg) (Nat.le_refl _))
  clear h
  go_enter Tryd.func14, Tryd.ntmps14
  go_wp2_with (go_at_call 31; go_loud ((with_reducible refine (HLK.out _ (by repeat (with_reducible first | assumption | exact grA | apply grB | apply grC | apply grD | refine grE ?_ (by omega) _ | refine grF ?_ (by omega) _ _))).mono ?_); rintro r w7 ⟨cb, rfl, hg7⟩))
  go_ret
  exact ⟨rfl, World.grows.trans (by repeat (with_reducible first | assumption | exact grA | apply grB | apply grC | apply grD | refine grE ?_ (by omega) _ | refine grF ?_ (by omega) _ _)) (hg7.trans (by repeat (with_reducible first | assumption | exact grA | apply grB | apply grC | apply grD | refine grE ?_ (by omega) _ | refine grF ?_ (by omega) _ _)))⟩
set_option maxRecDepth 100000 in
set_option maxHeartbeats 4000000 in
/-- may tokens change what stands around them? -/
theorem ljoins_any {w : World} {S : Nat → Prop} {v : Value} {l : List Tk} (h : SlAt w S 6 TkR v l) : Calls Tryd.prog 16 #[v] w (Gives w (.bool (l.any joinT))) := by
  obtain ⟨a, cap, rfl, hcap, hcap2⟩ := SlAt.len h
  have H := Lib.hid h
  clear h
  obtain ⟨res, hres⟩ : ∃ res, l.any joinT = res := ⟨_, rfl⟩
  have HRES := Lib.hid hres
  rw [hres]
  clear hres
  go_enter Tryd.func16, Tryd.ntmps16
  go_wp2_with fail
  go_loopg [7] l.length (fun gn v7 wj => ∃ i : Nat, Hid (gn + i = l.length ∧ i ≤ l.length) ∧ v7 = .int .i64 i ∧ w.grows wj ∧ Hid ((l.drop i).any joinT = res))
  case atStart => exact ⟨0, Lib.hid ⟨by simp, Nat.zero_le _⟩, by go_num, (by repeat (with_reducible first | assumption | exact grA | apply grB | apply grC | apply grD | refine grE ?_ (by omega) _ | refine grF ?_ (by omega) _ _)), Lib.hid HRES.out⟩
  case round =>
    obtain ⟨i, HQ, rfl, hgj, HR⟩ := hrel
    obtain ⟨j1, j2⟩ := HQ.out
    by_cases hlt : i < l.length
    · have hgt : l[i]? = some l[i] := List.getElem?_eq_getElem hlt
      have hdrop : l.drop i = l[i] :: l.drop (i + 1) := List.drop_eq_getElem_cons hlt
      obtain ⟨g, off, cs, rfl, -, -, k1, hv⟩ := H.out.elt hgt
      have HR2 := Lib.hid (show (joinT l[i] || (l.drop (i + 1)).any joinT) = res by rw [← HR.out, hdrop, List.any_cons])
      generalize l[i] = x at *
      obtain ⟨rfl, twf⟩ := hv
      obtain ⟨k, s, n1, d, q1, q2⟩ := x
      have k2 := k1.grows hgj
      have z3 := lt_sz k2.lt
      obtain ⟨u1, u2⟩ := k2
      replace u1 : segOk (off + i * 6) 6 (wr.row g) = true := u1
      replace u2 : segV (off + i * 6) 6 (wr.row g) = .agg #[.int .i64 k, .string s, .int .i64 n1, .int .i64 d, .bool q1, .bool q2] := u2
      have i1 : (0 : Int) ≤ (i : Int) := by omega
      have i2 : (i : Int) < (l.length : Int) := by omega
      have iw : IntKind.i64.wrap ((i : Int) + 1) = (i : Int) + 1 := by rw [IntKind.wrap_i64]; omega
      clear k1 twf hgt hdrop HR
      by_cases hc : clo k = 0
      · have hcb : (clo k == 0) = true := by rw [hc]; rfl
        by_cases h24 : k = 24
        · subst h24
          have HE := Lib.hid (show res = true by rw [← HR2.out]; rfl)
          clear hc hcb
          go_wp2_with ((go_at_call 28; (with_reducible refine (fclo_any 24 _).mono ?_); rintro e w1 ⟨rfl, x1, rfl⟩))
          go_ret
          rw [HE.out]
          exact ⟨rfl, hgj.trans (by repeat (with_reducible first | assumption | exact grA | apply grB | apply grC | apply grD | refine grE ?_ (by omega) _ | refine grF ?_ (by omega) _ _))⟩
        · have h24b : (k == 24) = false := by simpa using h24
          by_cases h22 : k = 22
          · subst h22
            have HE := Lib.hid (show res = true by rw [← HR2.out]; rfl)
            clear hc hcb
            go_wp2_with ((go_at_call 28; (with_reducible refine (fclo_any 22 _).mono ?_); rintro e w1 ⟨rfl, x1, rfl⟩))
            go_ret
            rw [HE.out]
            exact ⟨rfl, hgj.trans (by repeat (with_reducible first | assumption | exact grA | apply grB | apply grC | apply grD | refine grE ?_ (by omega) _ | refine grF ?_ (by omega) _ _))⟩
          · have h22b : (k == 22) = false := by simpa using h22
            by_cases h20 : k = 20
            · subst h20
              have HE := Lib.hid (show res = true by rw [← HR2.out]; rfl)
              clear hc hcb
              go_wp2_with ((go_at_call 28; (with_reducible refine (fclo_any 20 _).mono ?_); rintro e w1 ⟨rfl, x1, rfl⟩))
              go_ret
              rw [HE.out]
              exact ⟨rfl, hgj.trans (by repeat (with_reducible first | assumption | exact grA | apply grB | apply grC | apply grD | refine grE ?_ (by omega) _ | refine grF ?_ (by omega) _ _))⟩
            · have h20b : (k == 20) = false := by simpa using h20
              have HE := Lib.hid (show (l.drop (i + 1)).any joinT = res by rw [← HR2.out]; unfold joinT; simp [hc, h24, h22, h20])
              go_wp2_with ((go_at_call 28; (with_reducible refine (fclo_any k _).mono ?_); rintro e w1 ⟨rfl, x1, rfl⟩))
              go_roundg (l.length - (i + 1))
              case measure => omega
              case rel => exact ⟨i + 1, Lib.hid ⟨by omega, by omega⟩, by go_num, hgj.trans (by repeat (with_reducible first | assumption | exact grA | apply grB | apply grC | apply grD | refine grE ?_ (by omega) _ | refine grF ?_ (by omega) _ _)), HE⟩
      · have hcb : (clo k == 0) = false := by simpa using hc
        have HE := Lib.hid (show res = true by rw [← HR2.out]; unfold joinT; simp [hc])
        go_wp2_with ((go_at_call 28; (with_reducible refine (fclo_any k _).mono ?_); rintro e w1 ⟨rfl, x1, rfl⟩))
        go_ret
        rw [HE.out]
        exact ⟨rfl, hgj.trans (by repeat (with_reducible first | assumption | exact grA | apply grB | apply grC | apply grD | refine grE ?_ (by omega) _ | refine grF ?_ (by omega) _ _))⟩
    · have i2 : ¬ (i : Int) < (l.length : Int) := by omega
      obtain rfl : i = l.length := by omega
      have HE := Lib.hid (show res = false by rw [← HR.out, List.drop_length]; rfl)
      go_wp2_with fail
      go_ret
      rw [HE.out]
      exact ⟨rfl, hgj.trans (by repeat (with_reducible first | assumption | exact grA | apply grB | apply grC | apply grD | refine grE ?_ (by omega) _ | refine grF ?_ (by omega) _ _))⟩
end Go.Proofs.YthcaphoejplecaaDoor

/- WALK over the law VarsPlain. No condition but bounds and the table of kinds. -/
namespace Go.Proofs.YthcaphoejplecaaDoor
open Go.RowKit
set_option maxRecDepth 100000 in
set_option maxHeartbeats 8000000 in
theorem plain_any {w : World} {v : Value} {l : List Tk} {mp : Value} {cus : List Cu} {Sk : Nat → Prop} (h : TksAt w v l) (hl : l.length ≤ 4194304) (hk : CusAt w Sk mp cus) (hkl : cus.length ≤ 4194304) (hS : ∀ g, Sk g → g < w.heap.size) (hK : KindsAt w) :
    Calls Tryd.prog 4 #[v, mp] w (Gives w (.bool true)) := by
  obtain ⟨aC, cC, rfl, hcapC, hcapC2⟩ := SlAt.len hk
  have HV := Lib.hid (fun (W : World) (hg : w.grows W) => fValues_any (h.grows hg fun _ _ _ h => h) hl)
  have HA := Lib.hid (fun (W : World) (hg : w.grows W) => vPut_any (h.grows hg fun _ _ _ h => h) hl (CusAt.grows hk hg) hkl (fun g h => Nat.lt_of_lt_of_le (hS g h) hg.below.size))
  have HW := Lib.hid (fun (W : World) (hg : w.grows W) => awake_any (hK.grows hg))
  have HND := Lib.hid (Nat.le_trans (parse_nodes l) hl)
  have HK := Lib.hid (And.intro hk hkl)
  clear h hk hS hK
  cases hm : mayV 64 (parse l) with
  | false =>
    rw [all_no (k := findCu cus) hm] at HA
    have HM := Lib.hid (fun (W : World) (S : Nat → Prop) (u : Value) (hu : VsAt W S u (parse l)) => fMay_any hu)
    rw [hm] at HM
    clear hm
    go_enter Tryd.func4, Tryd.ntmps4
    go_upto_region 3 with (first | (go_at_call 12; go_loud ((with_reducible refine (HV.out _ (by repeat (with_reducible first | assumption | exact grA | apply grB | apply grC | apply grD | refine grE ?_ (by omega) _ | refine grF ?_ (by omega) _ _))).mono ?_); rintro r w1 ⟨v1, rfl, hg1, hv1⟩; replace hg1 : w.grows w1 := World.grows.trans (by repeat (with_reducible first | assumption | exact grA | apply grB | apply grC | apply grD | refine grE ?_ (by omega) _ | refine grF ?_ (by omega) _ _)) hg1; (have HV1 := Lib.hid hv1); clear hv1)) | (go_at_call 8; go_loud ((with_reducible refine (HA.out _ (hg1.trans (by repeat (with_reducible first | assumption | exact grA | apply grB | apply grC | apply grD | refine grE ?_ (by omega) _ | refine grF ?_ (by omega) _ _)))).mono ?_); rintro r w2 ⟨v2, rfl, hg2, hv2⟩; replace hg2 : w1.grows w2 := World.grows.trans (by repeat (with_reducible first | assumption | exact grA | apply grB | apply grC | apply grD | refine grE ?_ (by omega) _ | refine grF ?_ (by omega) _ _)) hg2; (obtain ⟨a2, c2, rfl, -, -⟩ := SlAt.len hv2); clear hv2)))
    have hg12 := hg1.trans hg2
    go_wp2_with (first | (go_at_call 13; (with_reducible refine (HM.out _ _ _ (VsAt.grows HV1.out (hg2.trans (by repeat (with_reducible first | assumption | exact grA | apply grB | apply grC | apply grD | refine grE ?_ (by omega) _ | refine grF ?_ (by omega) _ _))))).mono ?_); rintro e w1 ⟨rfl, x1, rfl⟩) | (go_at_call 11; (with_reducible refine (HW.out _ (hg12.trans (by repeat (with_reducible first | assumption | exact grA | apply grB | apply grC | apply grD | refine grE ?_ (by omega) _ | refine grF ?_ (by omega) _ _)))).mono ?_); rintro e w1 ⟨rfl, x1, rfl⟩))
    go_ret
    exact ⟨rfl, hg12.trans (by repeat (with_reducible first | assumption | exact grA | apply grB | apply grC | apply grD | refine grE ?_ (by omega) _ | refine grF ?_ (by omega) _ _))⟩
  | true =>
    have HM := Lib.hid (fun (W : World) (S : Nat → Prop) (u : Value) (hu : VsAt W S u (parse l)) => fMay_any hu)
    have HX := Lib.hid (fun (W : World) (S : Nat → Prop) (u : Value) (hu : VsAt W S u (parse l)) => fvars_any hu)
    have HFL := Lib.hid (fun (W : World) (S : Nat → Prop) (u : Value) (hu : VsAt W S u (parse l)) => fflat_any (nodesL (parse l)) W S u (parse l) hu (Nat.le_refl _) HND.out)
    have hm' := hm
    rw [hm] at HM
    cases hh : hasL (parse l) with
    | false =>
      rw [all_flat (k := findCu cus) hm hh] at HA
      rw [hh] at HX
      clear hm hh hm'
      unfold FlatPost at HFL
      generalize flatL (parse l) = fl at *
      by_cases h5 : 512 < fl.length
      · rw [if_pos h5] at HA
        have h5I : (512 : Int) < (fl.length : Int) := by omega
        go_enter Tryd.func4, Tryd.ntmps4
        go_upto_region 3 with (first | (go_at_call 12; go_loud ((with_reducible refine (HV.out _ (by repeat (with_reducible first | assumption | exact grA | apply grB | apply grC | apply grD | refine grE ?_ (by omega) _ | refine grF ?_ (by omega) _ _))).mono ?_); rintro r w1 ⟨v1, rfl, hg1, hv1⟩; replace hg1 : w.grows w1 := World.grows.trans (by repeat (with_reducible first | assumption | exact grA | apply grB | apply grC | apply grD | refine grE ?_ (by omega) _ | refine grF ?_ (by omega) _ _)) hg1; (have HV1 := Lib.hid hv1); clear hv1)) | (go_at_call 8; go_loud ((with_reducible refine (HA.out _ (hg1.trans (by repeat (with_reducible first | assumption | exact grA | apply grB | apply grC | apply grD | refine grE ?_ (by omega) _ | refine grF ?_ (by omega) _ _)))).mono ?_); rintro r w2 ⟨v2, rfl, hg2, hv2⟩; replace hg2 : w1.grows w2 := World.grows.trans (by repeat (with_reducible first | assumption | exact grA | apply grB | apply grC | apply grD | refine grE ?_ (by omega) _ | refine grF ?_ (by omega) _ _)) hg2; (obtain ⟨a2, c2, rfl, -, -⟩ := SlAt.len hv2); clear hv2)))
        have hg12 := hg1.trans hg2
        go_wp2_with (first | (go_at_call 13; (with_reducible refine (HM.out _ _ _ (VsAt.grows HV1.out (hg2.trans (by repeat (with_reducible first | assumption | exact grA | apply grB | apply grC | apply grD | refine grE ?_ (by omega) _ | refine grF ?_ (by omega) _ _))))).mono ?_); rintro e w1 ⟨rfl, x1, rfl⟩) | (go_at_call 14; (with_reducible refine (HX.out _ _ _ (VsAt.grows HV1.out (hg2.trans (by repeat (with_reducible first | assumption | exact grA | apply grB | apply grC | apply grD | refine grE ?_ (by omega) _ | refine grF ?_ (by omega) _ _))))).mono ?_); rintro e w1 ⟨rfl, x1, rfl⟩) | (go_at_call 11; (with_reducible refine (HW.out _ (hgw5.trans (by repeat (with_reducible first | assumption | exact grA | apply grB | apply grC | apply grD | refine grE ?_ (by omega) _ | refine grF ?_ (by omega) _ _)))).mono ?_); rintro e w1 ⟨rfl, x1, rfl⟩) | (go_at_call 15; go_loud ((with_reducible refine (HFL.out _ _ _ (VsAt.grows HV1.out (hg2.trans (by repeat (with_reducible first | assumption | exact grA | apply grB | apply grC | apply grD | refine grE ?_ (by omega) _ | refine grF ?_ (by omega) _ _))))).mono ?_); rintro r w5 ⟨v5, rfl, hg5, ho5⟩; (obtain ⟨a5, c5, rfl⟩ := own_slice ho5.1); (have hgw5 : w.grows w5 := hg12.trans (World.grows.trans (by repeat (with_reducible first | assumption | exact grA | apply grB | apply grC | apply grD | refine grE ?_ (by omega) _ | refine grF ?_ (by omega) _ _)) hg5)); clear ho5 hg5)))
        go_ret
        exact ⟨rfl, hgw5.trans (by repeat (with_reducible first | assumption | exact grA | apply grB | apply grC | apply grD | refine grE ?_ (by omega) _ | refine grF ?_ (by omega) _ _))⟩
      · rw [if_neg h5] at HA
        have h5I : ¬ (512 : Int) < (fl.length : Int) := by omega
        go_enter Tryd.func4, Tryd.ntmps4
        go_upto_region 3 with (first | (go_at_call 12; go_loud ((with_reducible refine (HV.out _ (by repeat (with_reducible first | assumption | exact grA | apply grB | apply grC | apply grD | refine grE ?_ (by omega) _ | refine grF ?_ (by omega) _ _))).mono ?_); rintro r w1 ⟨v1, rfl, hg1, hv1⟩; replace hg1 : w.grows w1 := World.grows.trans (by repeat (with_reducible first | assumption | exact grA | apply grB | apply grC | apply grD | refine grE ?_ (by omega) _ | refine grF ?_ (by omega) _ _)) hg1; (have HV1 := Lib.hid hv1); clear hv1)) | (go_at_call 8; go_loud ((with_reducible refine (HA.out _ (hg1.trans (by repeat (with_reducible first | assumption | exact grA | apply grB | apply grC | apply grD | refine grE ?_ (by omega) _ | refine grF ?_ (by omega) _ _)))).mono ?_); rintro r w2 ⟨v2, rfl, hg2, hv2⟩; replace hg2 : w1.grows w2 := World.grows.trans (by repeat (with_reducible first | assumption | exact grA | apply grB | apply grC | apply grD | refine grE ?_ (by omega) _ | refine grF ?_ (by omega) _ _)) hg2; (obtain ⟨a2, c2, rfl, -, -⟩ := SlAt.len hv2); (have HV2 := Lib.hid hv2); clear hv2)))
        have hg12 := hg1.trans hg2
        go_wp2_with (first | (go_at_call 13; (with_reducible refine (HM.out _ _ _ (VsAt.grows HV1.out (hg2.trans (by repeat (with_reducible first | assumption | exact grA | apply grB | apply grC | apply grD | refine grE ?_ (by omega) _ | refine grF ?_ (by omega) _ _))))).mono ?_); rintro e w1 ⟨rfl, x1, rfl⟩) | (go_at_call 14; (with_reducible refine (HX.out _ _ _ (VsAt.grows HV1.out (hg2.trans (by repeat (with_reducible first | assumption | exact grA | apply grB | apply grC | apply grD | refine grE ?_ (by omega) _ | refine grF ?_ (by omega) _ _))))).mono ?_); rintro e w1 ⟨rfl, x1, rfl⟩) | (go_at_call 10; (with_reducible refine (HSM.out _ (by repeat (with_reducible first | assumption | exact grA | apply grB | apply grC | apply grD | refine grE ?_ (by omega) _ | refine grF ?_ (by omega) _ _))).mono ?_); rintro e w1 ⟨rfl, x1, rfl⟩) | (go_at_call 11; (with_reducible refine (HW.out _ (hgw5.trans (by repeat (with_reducible first | assumption | exact grA | apply grB | apply grC | apply grD | refine grE ?_ (by omega) _ | refine grF ?_ (by omega) _ _)))).mono ?_); rintro e w1 ⟨rfl, x1, rfl⟩) | (go_at_call 15; go_loud ((with_reducible refine (HFL.out _ _ _ (VsAt.grows HV1.out (hg2.trans (by repeat (with_reducible first | assumption | exact grA | apply grB | apply grC | apply grD | refine grE ?_ (by omega) _ | refine grF ?_ (by omega) _ _))))).mono ?_); rintro r w5 ⟨v5, rfl, hg5, ho5⟩; (obtain ⟨a5, c5, rfl⟩ := own_slice ho5.1); (have hg25 : w2.grows w5 := World.grows.trans (by repeat (with_reducible first | assumption | exact grA | apply grB | apply grC | apply grD | refine grE ?_ (by omega) _ | refine grF ?_ (by omega) _ _)) hg5); (have hgw5 : w.grows w5 := hg12.trans hg25); (have HSM := Lib.hid (fun (W : World) (hg : w5.grows W) => fsame_any (HV2.out.grows (hg25.trans hg) fun _ _ _ h => h) ((ho5.slAt (S := fun _ => True) fun _ _ _ => trivial).grows hg fun _ _ _ h => h))); clear ho5 hg5)))
        go_ret
        exact ⟨rfl, hgw5.trans (by repeat (with_reducible first | assumption | exact grA | apply grB | apply grC | apply grD | refine grE ?_ (by omega) _ | refine grF ?_ (by omega) _ _))⟩
    | true =>
      rw [hh] at HX
      rcases all_err (k := findCu cus) hm with e | ⟨o, e, ho, hf⟩
      · rw [e] at HA
        clear hm hh hm' e
        go_enter Tryd.func4, Tryd.ntmps4
        go_upto_region 3 with (first | (go_at_call 12; go_loud ((with_reducible refine (HV.out _ (by repeat (with_reducible first | assumption | exact grA | apply grB | apply grC | apply grD | refine grE ?_ (by omega) _ | refine grF ?_ (by omega) _ _))).mono ?_); rintro r w1 ⟨v1, rfl, hg1, hv1⟩; replace hg1 : w.grows w1 := World.grows.trans (by repeat (with_reducible first | assumption | exact grA | apply grB | apply grC | apply grD | refine grE ?_ (by omega) _ | refine grF ?_ (by omega) _ _)) hg1; (have HV1 := Lib.hid hv1); clear hv1)) | (go_at_call 8; go_loud ((with_reducible refine (HA.out _ (hg1.trans (by repeat (with_reducible first | assumption | exact grA | apply grB | apply grC | apply grD | refine grE ?_ (by omega) _ | refine grF ?_ (by omega) _ _)))).mono ?_); rintro r w2 ⟨v2, rfl, hg2, hv2⟩; replace hg2 : w1.grows w2 := World.grows.trans (by repeat (with_reducible first | assumption | exact grA | apply grB | apply grC | apply grD | refine grE ?_ (by omega) _ | refine grF ?_ (by omega) _ _)) hg2; (obtain ⟨a2, c2, rfl, -, -⟩ := SlAt.len hv2); clear hv2)))
        have hg12 := hg1.trans hg2
        go_wp2_with (first | (go_at_call 13; (with_reducible refine (HM.out _ _ _ (VsAt.grows HV1.out (hg2.trans (by repeat (with_reducible first | assumption | exact grA | apply grB | apply grC | apply grD | refine grE ?_ (by omega) _ | refine grF ?_ (by omega) _ _))))).mono ?_); rintro e w1 ⟨rfl, x1, rfl⟩) | (go_at_call 14; (with_reducible refine (HX.out _ _ _ (VsAt.grows HV1.out (hg2.trans (by repeat (with_reducible first | assumption | exact grA | apply grB | apply grC | apply grD | refine grE ?_ (by omega) _ | refine grF ?_ (by omega) _ _))))).mono ?_); rintro e w1 ⟨rfl, x1, rfl⟩) | (go_at_call 11; (with_reducible refine (HW.out _ (hg12.trans (by repeat (with_reducible first | assumption | exact grA | apply grB | apply grC | apply grD | refine grE ?_ (by omega) _ | refine grF ?_ (by omega) _ _)))).mono ?_); rintro e w1 ⟨rfl, x1, rfl⟩))
        go_ret
        exact ⟨rfl, hg12.trans (by repeat (with_reducible first | assumption | exact grA | apply grB | apply grC | apply grD | refine grE ?_ (by omega) _ | refine grF ?_ (by omega) _ _))⟩
      · rw [e] at HA
        have HF := Lib.hid hf
        clear hm hh hm' e hf
        go_enter Tryd.func4, Tryd.ntmps4
        go_upto_region 3 with (first | (go_at_call 12; go_loud ((with_reducible refine (HV.out _ (by repeat (with_reducible first | assumption | exact grA | apply grB | apply grC | apply grD | refine grE ?_ (by omega) _ | refine grF ?_ (by omega) _ _))).mono ?_); rintro r w1 ⟨v1, rfl, hg1, hv1⟩; replace hg1 : w.grows w1 := World.grows.trans (by repeat (with_reducible first | assumption | exact grA | apply grB | apply grC | apply grD | refine grE ?_ (by omega) _ | refine grF ?_ (by omega) _ _)) hg1; (have HV1 := Lib.hid hv1); clear hv1)) | (go_at_call 8; go_loud ((with_reducible refine (HA.out _ (hg1.trans (by repeat (with_reducible first | assumption | exact grA | apply grB | apply grC | apply grD | refine grE ?_ (by omega) _ | refine grF ?_ (by omega) _ _)))).mono ?_); rintro r w2 ⟨v2, rfl, hg2, hv2⟩; replace hg2 : w1.grows w2 := World.grows.trans (by repeat (with_reducible first | assumption | exact grA | apply grB | apply grC | apply grD | refine grE ?_ (by omega) _ | refine grF ?_ (by omega) _ _)) hg2; (obtain ⟨a2, c2, rfl, -, -⟩ := SlAt.len hv2); (have HV2 := Lib.hid hv2); clear hv2)))
        have hg12 := hg1.trans hg2
        go_wp2_with (first | (go_at_call 13; (with_reducible refine (HM.out _ _ _ (VsAt.grows HV1.out (hg2.trans (by repeat (with_reducible first | assumption | exact grA | apply grB | apply grC | apply grD | refine grE ?_ (by omega) _ | refine grF ?_ (by omega) _ _))))).mono ?_); rintro e w1 ⟨rfl, x1, rfl⟩) | (go_at_call 14; (with_reducible refine (HX.out _ _ _ (VsAt.grows HV1.out (hg2.trans (by repeat (with_reducible first | assumption | exact grA | apply grB | apply grC | apply grD | refine grE ?_ (by omega) _ | refine grF ?_ (by omega) _ _))))).mono ?_); rintro e w1 ⟨rfl, x1, rfl⟩))
        go_loopg [69] cus.length (fun gn v69 wj => ∃ i : Nat, Hid (gn + i = cus.length ∧ i ≤ cus.length) ∧ v69 = .int .i64 i ∧ w2.grows wj ∧ Hid (∀ c ∈ cus.take i, c.ts.any joinT = false))
        case atStart => exact ⟨0, Lib.hid ⟨by simp, Nat.zero_le _⟩, by go_num, (by repeat (with_reducible first | assumption | exact grA | apply grB | apply grC | apply grD | refine grE ?_ (by omega) _ | refine grF ?_ (by omega) _ _)), Lib.hid (fun c hc => by simp at hc)⟩
        case round =>
          obtain ⟨i, HQ, rfl, hgj, HN⟩ := hrel
          obtain ⟨j1, j2⟩ := HQ.out
          by_cases hlt : i < cus.length
          · have hgt : cus[i]? = some cus[i] := List.getElem?_eq_getElem hlt
            obtain ⟨g, off, cs, rfl, -, -, k1, hv⟩ := HK.out.1.elt hgt
            have htk : ∀ c ∈ cus.take (i + 1), c ∈ cus.take i ∨ c = cus[i] := fun c hc => by
              rw [List.take_add_one, hgt] at hc
              rcases List.mem_append.1 hc with h1 | h1
              · exact .inl h1
              · exact .inr (List.mem_singleton.1 h1)
            generalize cus[i] = x at *
            obtain ⟨n, ts⟩ := x
            obtain ⟨hnm, u, rfl, hts, htl⟩ := hv
            obtain ⟨aT, cT, rfl, -, -⟩ := hts.len
            have hgj0 := hg12.trans hgj
            have k2 := k1.grows hgj0
            have z3 := lt_sz k2.lt
            obtain ⟨u1, u2⟩ := k2
            replace u1 : segOk (off + i * 2) 2 (wr.row g) = true := u1
            replace u2 : segV (off + i * 2) 2 (wr.row g) = .agg #[.string n, .slice aT ts.length cT] := u2
            have ii0 : (0 : Int) ≤ (i : Int) := by omega
            have iI : (i : Int) < (cus.length : Int) := by omega
            have iw : IntKind.i64.wrap ((i : Int) + 1) = (i : Int) + 1 := by rw [IntKind.wrap_i64]; omega
            have HJ := Lib.hid (fun (W : World) (hg : w.grows W) => ljoins_any (hts.grows hg fun _ _ _ h => h))
            have HTK := Lib.hid htk
            clear k1 hts htl hgt htk
            cases hj : ts.any joinT with
            | true =>
              rw [hj] at HJ
              clear hj
              go_wp2_with (first | (go_at_call 16; (with_reducible refine (HJ.out _ (hgj0.trans (by repeat (with_reducible first | assumption | exact grA | apply grB | apply grC | apply grD | refine grE ?_ (by omega) _ | refine grF ?_ (by omega) _ _)))).mono ?_); rintro e w1 ⟨rfl, x1, rfl⟩) | (go_at_call 11; (with_reducible refine (HW.out _ (hgj0.trans (by repeat (with_reducible first | assumption | exact grA | apply grB | apply grC | apply grD | refine grE ?_ (by omega) _ | refine grF ?_ (by omega) _ _)))).mono ?_); rintro e w1 ⟨rfl, x1, rfl⟩))
              go_ret
              exact ⟨rfl, hgj0.trans (by repeat (with_reducible first | assumption | exact grA | apply grB | apply grC | apply grD | refine grE ?_ (by omega) _ | refine grF ?_ (by omega) _ _))⟩
            | false =>
              have HJ2 := Lib.hid hj
              rw [hj] at HJ
              clear hj
              go_wp2_with ((go_at_call 16; (with_reducible refine (HJ.out _ (hgj0.trans (by repeat (with_reducible first | assumption | exact grA | apply grB | apply grC | apply grD | refine grE ?_ (by omega) _ | refine grF ?_ (by omega) _ _)))).mono ?_); rintro e w1 ⟨rfl, x1, rfl⟩))
              go_roundg (cus.length - (i + 1))
              case measure => omega
              case rel => exact ⟨i + 1, Lib.hid ⟨by omega, by omega⟩, by go_num, hgj.trans (by repeat (with_reducible first | assumption | exact grA | apply grB | apply grC | apply grD | refine grE ?_ (by omega) _ | refine grF ?_ (by omega) _ _)), Lib.hid fun c hc => by
                rcases HTK.out c hc with h1 | rfl
                · exact HN.out c h1
                · exact HJ2.out⟩
          · have iI : ¬ (i : Int) < (cus.length : Int) := by omega
            obtain rfl : i = cus.length := by omega
            have HFR := Lib.hid (HF.out (join_free (by have := HN.out; rwa [List.take_length] at this)))
            have hgj0 := hg12.trans hgj
            have ho5 : (o.length : Int) ≤ 512 := by omega
            have HVO := Lib.hid (fun (W : World) (hg : w2.grows W) => fValues_any (w := W) ((HV2.out.keep (fun g _ hl => ⟨hg.row_eq hl, trivial⟩) fun _ _ _ h => h)) (Nat.le_trans ho (by decide)))
            go_wp2_with (first | (go_at_call 14; (with_reducible refine (HX9.out _ (by repeat (with_reducible first | assumption | exact grA | apply grB | apply grC | apply grD | refine grE ?_ (by omega) _ | refine grF ?_ (by omega) _ _))).mono ?_); rintro e w1 ⟨rfl, x1, rfl⟩) | (go_at_call 11; (with_reducible refine (HW.out _ (hg9.trans (by repeat (with_reducible first | assumption | exact grA | apply grB | apply grC | apply grD | refine grE ?_ (by omega) _ | refine grF ?_ (by omega) _ _)))).mono ?_); rintro e w1 ⟨rfl, x1, rfl⟩) | (go_at_call 12; go_loud ((with_reducible refine (HVO.out _ (hgj.trans (by repeat (with_reducible first | assumption | exact grA | apply grB | apply grC | apply grD | refine grE ?_ (by omega) _ | refine grF ?_ (by omega) _ _)))).mono ?_); rintro r w9 ⟨v9, rfl, hg9, hv9⟩; replace hg9 : w.grows w9 := hgj0.trans (World.grows.trans (by repeat (with_reducible first | assumption | exact grA | apply grB | apply grC | apply grD | refine grE ?_ (by omega) _ | refine grF ?_ (by omega) _ _)) hg9); (have HX9 := Lib.hid (fun (W : World) (hg : w9.grows W) => fvars_any (VsAt.grows hv9 hg))); (rw [HFR.out] at HX9); clear hv9)))
            go_ret
            exact ⟨rfl, hg9.trans (by repeat (with_reducible first | assumption | exact grA | apply grB | apply grC | apply grD | refine grE ?_ (by omega) _ | refine grF ?_ (by omega) _ _))⟩
end Go.Proofs.YthcaphoejplecaaDoor

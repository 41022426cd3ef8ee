/- PLAIN: values without a use are put as they are; behind putting there is no use. No condition; no program. -/
import Derived.Test.YthcaphoejplecaaGreatDoorVaX
set_option linter.unusedSimpArgs false
set_option linter.unusedVariables false
namespace Go
open Go.RowKit
mutual
/-- the tokens of values -/
def flatV : Vt → List Tk
  | .mk t ks => t :: (flatL ks ++ (if clo t.k ≠ 0 then [shutTk t.k] else []))
def flatL : List Vt → List Tk
  | [] => []
  | x :: l => flatV x ++ flatL l
end
mutual
/-- is there a use? -/
def hasV : Vt → Bool
  | .mk t ks => useT (.mk t []) || hasL ks
def hasL : List Vt → Bool
  | [] => false
  | x :: l => hasV x || hasL l
end
theorem flatL_app (a b : List Vt) : flatL (a ++ b) = flatL a ++ flatL b := by
  induction a with
  | nil => rfl
  | cons x a ih => simp [flatL, ih]
theorem flatL_cons (t : Tk) (ks l : List Vt) : flatL (.mk t ks :: l) = t :: (flatL ks ++ (if clo t.k ≠ 0 then [shutTk t.k] else [])) ++ flatL l := by
  simp [flatL, flatV]
theorem hasL_cons (t : Tk) (ks l : List Vt) : hasL (.mk t ks :: l) = ((useT (.mk t []) || hasL ks) || hasL l) := by
  simp [hasL, hasV]
theorem hasL_app (a b : List Vt) : hasL (a ++ b) = (hasL a || hasL b) := by
  induction a with
  | nil => rfl
  | cons x a ih => simp [hasL, ih, Bool.or_assoc]
theorem flatL_len : ∀ l : List Vt, nodesL l ≤ (flatL l).length ∧ (flatL l).length ≤ 2 * nodesL l
  | [] => by simp [flatL, nodesL]
  | .mk t ks :: l => by
    have h1 := flatL_len ks
    have h2 := flatL_len l
    rw [flatL_cons]
    simp only [nodesL, Vt.nodes, List.length_append, List.length_cons]
    split <;> simp <;> omega
termination_by l => nodesL l
decreasing_by all_goals (simp [nodesL, Vt.nodes]; try omega)
theorem moreT_app (out a b : List Tk) : moreT out (a ++ b) = match moreT out a with | none => none | some o => moreT o b := by
  unfold moreT
  by_cases h : 512 < out.length + a.length
  · rw [if_pos h, if_pos (by simp; omega)]
  · rw [if_neg h]; simp [Nat.add_assoc]
theorem moreT_nil {out : List Tk} (h : out.length ≤ 512) : moreT out [] = some out := by
  unfold moreT; rw [if_neg (by simp; omega), List.append_nil]
theorem chk_leaf {n : Nat} {t : Tk} {ks : List Vt} (h : chkV n (.mk t ks) = true) (hc : clo t.k = 0) : ks = [] := by
  unfold chkV at h
  simp only [Bool.and_eq_true] at h
  have h2 := h.2
  rw [if_pos (show clo (Vt.mk t ks).t.k = 0 from hc)] at h2
  exact List.isEmpty_iff.1 h2
/-- values without a use are put as they are -/
theorem put_flat (k : Known) (n : Nat) : ∀ (l : List Vt) (out : List Tk), mayV n l = true → hasL l = false → out.length ≤ 512 → putR k (n + 1) out l = moreT out (flatL l) := by
  induction n using Nat.strongRecOn with | _ n IHn => ?_
  intro l
  induction l with
  | nil => intro out _ _ h; rw [putR_nil]; exact (moreT_nil h).symm
  | cons x l IHl =>
    intro out hm hh h
    obtain ⟨t, ks⟩ := x
    rw [hasL_cons] at hh
    simp only [Bool.or_eq_false_iff] at hh
    obtain ⟨⟨h1, h2⟩, h3⟩ := hh
    rw [mayV_all, List.all_cons, Bool.and_eq_true, ← mayV_all] at hm
    obtain ⟨hc, hm⟩ := hm
    rw [putR_cons, stepR_eq, if_neg (by rw [show useT (.mk t ks) = useT (.mk t []) from rfl, h1]; decide), flatL_cons]
    by_cases h0 : clo t.k = 0
    · have hk := chk_leaf hc h0
      subst hk
      rw [if_neg (by simpa using h0), if_neg (by simpa using h0)]
      rw [show t :: (flatL [] ++ []) ++ flatL l = [t] ++ flatL l from rfl, moreT_app]
      cases hq : moreT out [t] with
      | none => rfl
      | some o => exact IHl o hm h3 (moreT_len hq).2
    · obtain ⟨m, hnm, hmk⟩ := chk_open hc h0
      subst hnm
      rw [if_pos h0, if_pos h0]
      rw [show t :: (flatL ks ++ [shutTk t.k]) ++ flatL l = [t] ++ (flatL ks ++ ([shutTk t.k] ++ flatL l)) by simp, moreT_app]
      cases hq : moreT out [t] with
      | none => rfl
      | some o =>
        show (match openR k (m + 1) (some o) ks t.k with | none => none | some o => putR k (m + 1 + 1) o l) = moreT o _
        unfold openR
        rw [moreT_app]
        show (match openR1 (putR k (m + 1) o ks) t.k with | none => none | some o => putR k (m + 1 + 1) o l) = _
        rw [IHn m (by omega) ks o hmk h2 (moreT_len hq).2]
        cases hq2 : moreT o (flatL ks) with
        | none => rfl
        | some o2 =>
          show (match moreT o2 [shutTk t.k] with | none => none | some o => putR k (m + 1 + 1) o l) = moreT o2 _
          rw [moreT_app]
          cases hq3 : moreT o2 [shutTk t.k] with
          | none => rfl
          | some o3 => exact IHl o3 hm h3 (moreT_len hq3).2
/-- what is put holds no use, if what is known holds none -/
theorem put_free (k : Known) (hk : ∀ nm ts, k nm = some ts → ∀ t ∈ ts, useT (.mk t []) = false) : ∀ (n : Nat) (l : List Vt) (out o : List Tk), (∀ t ∈ out, useT (.mk t []) = false) → putR k n out l = some o → ∀ t ∈ o, useT (.mk t []) = false
  | 0, l, out, o, _, h => by simp [putR] at h
  | n + 1, [], out, o, ho, h => by rw [putR_nil] at h; cases h; exact ho
  | n + 1, .mk t ks :: l, out, o, ho, h => by
    have hsn : ∀ (a : List Tk) (b : Tk), (∀ t ∈ a, useT (.mk t []) = false) → useT (.mk b []) = false → ∀ t ∈ a ++ [b], useT (.mk t []) = false := fun a b h1 h2 t ht => by
      rcases List.mem_append.1 ht with h | h
      · exact h1 t h
      · rw [List.mem_singleton.1 h]; exact h2
    rw [putR_cons] at h
    cases hs : stepR k n out (.mk t ks) with
    | none => rw [hs] at h; cases h
    | some m =>
      rw [hs] at h
      refine put_free k hk (n + 1) l m o ?_ h
      rw [stepR_eq] at hs
      by_cases hu : useT (.mk t ks) = true
      · rw [if_pos hu] at hs
        unfold useR at hs
        cases hN : namedT (.mk t ks) with
        | none => rw [hN] at hs; cases hs
        | some y =>
          obtain ⟨nm, rest⟩ := y
          rw [hN] at hs
          simp only at hs
          cases hkn : k nm with
          | some ts =>
            rw [hkn] at hs
            obtain ⟨rfl, -⟩ := moreT_len hs
            intro x hx
            rcases List.mem_append.1 hx with h | h
            · exact ho x h
            · exact hk nm ts hkn x h
          | none =>
            rw [hkn] at hs
            simp only at hs
            split at hs
            · cases hs
            · exact put_free k hk n _ out m ho hs
      · have hu' : useT (.mk t []) = false := by rw [show useT (.mk t []) = useT (.mk t ks) from rfl]; simpa using hu
        rw [if_neg hu] at hs
        split at hs
        · rename_i hc
          unfold openR at hs
          cases hq : moreT out [t] with
          | none => rw [hq] at hs; cases hs
          | some o1 =>
            rw [hq] at hs
            simp only at hs
            cases hq2 : putR k n o1 ks with
            | none => rw [hq2] at hs; cases hs
            | some o2 =>
              rw [hq2] at hs
              obtain ⟨rfl, -⟩ := moreT_len hq
              obtain ⟨rfl, -⟩ := moreT_len (show moreT o2 [shutTk t.k] = some m from hs)
              refine hsn _ _ (put_free k hk n ks _ o2 (hsn _ _ ho hu') hq2) ?_
              have : clo t.k ≠ 2 := by rcases clo_cases t.k with h | h | h | h <;> rw [h] <;> decide
              show (decide (clo t.k = 2) && _) = false
              rw [decide_eq_false this]; rfl
        · obtain ⟨rfl, -⟩ := moreT_len hs
          exact hsn _ _ ho hu'
termination_by n l => (n, l.length)
/-- the stack, the innermost first -/
def addS (s : List Frm) (x : Vt) : List Frm := match s with | [] => [] | f :: r => ⟨f.tok, f.kids ++ [x]⟩ :: r
def stepS (s : List Frm) (t : Tk) : List Frm := match s with
  | [] => []
  | [f] => if clo t.k ≠ 0 then [⟨t, []⟩, f] else addS [f] (.mk t [])
  | f :: g :: r => if t.k = clo f.tok.k then addS (g :: r) (.mk f.tok f.kids) else if clo t.k ≠ 0 then ⟨t, []⟩ :: f :: g :: r else addS (f :: g :: r) (.mk t [])
def endS : List Frm → List Vt
  | [] => []
  | [f] => f.kids
  | f :: g :: r => endS (⟨g.tok, g.kids ++ [.mk f.tok f.kids]⟩ :: r)
termination_by s => s.length
theorem lastF_rev (f : Frm) (r : List Frm) : lastF (f :: r).reverse = f := by rw [List.reverse_cons, lastF_snoc]
theorem dropLast_rev (f : Frm) (r : List Frm) : (f :: r).reverse.dropLast = r.reverse := by rw [List.reverse_cons, List.dropLast_concat]
theorem addF_rev (f : Frm) (r : List Frm) (x : Vt) : addF (f :: r).reverse x = (addS (f :: r) x).reverse := by
  unfold addF addS
  rw [lastF_rev, dropLast_rev]; simp
theorem shutF_rev (f g : Frm) (r : List Frm) : shutF (f :: g :: r).reverse = (addS (g :: r) (.mk f.tok f.kids)).reverse := by
  unfold shutF
  rw [lastF_rev, dropLast_rev, addF_rev]
theorem stepF_rev (f : Frm) (r : List Frm) (t : Tk) : stepF (f :: r).reverse t = (stepS (f :: r) t).reverse := by
  unfold stepF
  rw [lastF_rev]
  cases r with
  | nil =>
    rw [if_neg (by simp)]
    unfold stepS
    simp only
    split
    · simp
    · exact addF_rev f [] _
  | cons g r =>
    unfold stepS
    simp only
    by_cases h : t.k = clo f.tok.k
    · rw [if_pos ⟨by simp, h⟩, if_pos h]; exact shutF_rev f g r
    · rw [if_neg (fun hh => h hh.2), if_neg h]
      split
      · simp
      · exact addF_rev f (g :: r) _
theorem stepS_ne {s : List Frm} (h : s ≠ []) (t : Tk) : stepS s t ≠ [] := by
  unfold stepS addS
  split
  · exact absurd rfl h
  · split <;> simp
  · split
    · simp
    · split <;> simp
theorem run_stack : ∀ (l : List Tk) (p : Ps) (s : List Frm), p.ls.length = p.os.length + 1 → s ≠ [] → p.frs = s.reverse → (l.foldl Ps.step p).frs = (l.foldl stepS s).reverse
  | [], p, s, _, _, h => h
  | t :: l, p, s, hl, hs, h => by
    rw [List.foldl_cons, List.foldl_cons]
    refine run_stack l _ _ (Ps.step_len hl t) (stepS_ne hs t) ?_
    rw [frs_step hl, h]
    cases s with
    | nil => exact absurd rfl hs
    | cons f r => exact stepF_rev f r t
theorem ends_stack : ∀ (n : Nat) (p : Ps) (s : List Frm), n = p.os.length → p.ls.length = p.os.length + 1 → p.frs = s.reverse → (Ps.ends n p).ls.headD [] = endS s
  | 0, p, s, hn, hl, h => by
    obtain ⟨os, ls⟩ := p
    simp only at *
    obtain rfl : os = [] := List.length_eq_zero_iff.1 hn.symm
    obtain ⟨l0, m, rfl, h0⟩ := snoc_of (n := 0) hl
    obtain rfl : l0 = [] := List.length_eq_zero_iff.1 h0
    have h2 : [⟨zeroTk, m⟩] = s.reverse := h
    obtain rfl : s = [⟨zeroTk, m⟩] := by rw [← List.reverse_reverse s, ← h2]; rfl
    simp [Ps.ends, endS]
  | n + 1, p, s, hn, hl, h => by
    have ho : p.os ≠ [] := fun e => by rw [e] at hn; simp at hn
    have hfl := frs_len hl
    rw [h, List.length_reverse, ← hn] at hfl
    obtain ⟨f, s1, rfl⟩ : ∃ f s1, s = f :: s1 := by cases s with | nil => simp at hfl | cons f s1 => exact ⟨f, s1, rfl⟩
    obtain ⟨g, r, rfl⟩ : ∃ g r, s1 = g :: r := by cases s1 with | nil => simp at hfl | cons f s1 => exact ⟨f, s1, rfl⟩
    have := ends_stack n p.shut (addS (g :: r) (.mk f.tok f.kids)) (by unfold Ps.shut; simp; omega) (Ps.shut_len hl ho) (by rw [frs_shut hl ho, h, shutF_rev])
    rw [show endS (f :: g :: r) = endS (addS (g :: r) (.mk f.tok f.kids)) by rw [endS]; rfl]
    exact this
theorem parse_stack (l : List Tk) : parse l = endS (l.foldl stepS [⟨zeroTk, []⟩]) := by
  unfold parse
  exact ends_stack _ _ _ rfl (Ps.run_len l) (run_stack l ⟨[], [[]]⟩ [⟨zeroTk, []⟩] rfl (by simp) rfl)
mutual
/-- values as reading makes them, in what such a kind closes -/
def nrmV : Int → Vt → Prop
  | c, .mk t ks => (c = 0 ∨ t.k ≠ c) ∧ nrmL (clo t.k) ks ∧ (clo t.k = 0 → ks = [])
def nrmL : Int → List Vt → Prop
  | _, [] => True
  | c, x :: l => nrmV c x ∧ nrmL c l
end
theorem nrmL_app (c : Int) (a b : List Vt) : nrmL c (a ++ b) ↔ nrmL c a ∧ nrmL c b := by
  induction a with
  | nil => simp [nrmL]
  | cons x a ih => simp [nrmL, ih, and_assoc]
theorem nrmL_one (c : Int) (t : Tk) (ks : List Vt) : nrmL c [.mk t ks] ↔ (c = 0 ∨ t.k ≠ c) ∧ nrmL (clo t.k) ks ∧ (clo t.k = 0 → ks = []) := by
  simp [nrmL, nrmV]
/-- a stack as reading makes it -/
def NrS : List Frm → Prop
  | [] => False
  | [f] => f.tok = zeroTk ∧ nrmL 0 f.kids
  | f :: g :: r => clo f.tok.k ≠ 0 ∧ nrmL (clo f.tok.k) f.kids ∧ NrS (g :: r)
theorem clo_open {k j : Int} (h : clo k ≠ 0) : k ≠ clo j := fun e => h (by rw [e]; exact clo_no j)
theorem NrS.add {f : Frm} {r : List Frm} {x : Vt} (h : NrS (f :: r)) (hx : nrmL (clo f.tok.k) [x]) : NrS (addS (f :: r) x) := by
  cases r with
  | nil =>
    obtain ⟨h1, h2⟩ := h
    rw [h1] at hx
    exact ⟨h1, (nrmL_app _ _ _).2 ⟨h2, hx⟩⟩
  | cons g r =>
    obtain ⟨h1, h2, h3⟩ := h
    exact ⟨h1, (nrmL_app _ _ _).2 ⟨h2, hx⟩, h3⟩
theorem NrS.leaf {f : Frm} {r : List Frm} {t : Tk} (h : NrS (f :: r)) (hc : clo t.k = 0) (ht : clo f.tok.k = 0 ∨ t.k ≠ clo f.tok.k) : NrS (addS (f :: r) (.mk t [])) :=
  h.add ((nrmL_one _ _ _).2 ⟨ht, by rw [nrmL]; trivial, fun _ => rfl⟩)
theorem NrS.shut {f g : Frm} {r : List Frm} (h : NrS (f :: g :: r)) : NrS (addS (g :: r) (.mk f.tok f.kids)) := by
  obtain ⟨h1, h2, h3⟩ := h
  exact h3.add ((nrmL_one _ _ _).2 ⟨.inr (clo_open h1), h2, fun e => absurd e h1⟩)
theorem NrS.step {s : List Frm} (h : NrS s) (t : Tk) : NrS (stepS s t) := by
  cases s with
  | nil => exact h.elim
  | cons f r =>
    cases r with
    | nil =>
      unfold stepS
      simp only
      split
      · rename_i hc; exact ⟨hc, by rw [nrmL]; trivial, h⟩
      · rename_i hc
        refine h.leaf (by simpa using hc) (.inl ?_)
        rw [h.1]; rfl
    | cons g r =>
      unfold stepS
      simp only
      split
      · exact h.shut
      · rename_i hk
        split
        · rename_i hc; exact ⟨hc, by rw [nrmL]; trivial, h⟩
        · rename_i hc; exact h.leaf (by simpa using hc) (.inr hk)
theorem NrS.run : ∀ (l : List Tk) (s : List Frm), NrS s → NrS (l.foldl stepS s)
  | [], _, h => h
  | t :: l, s, h => NrS.run l _ (h.step t)
theorem NrS.ends : ∀ (n : Nat) (s : List Frm), s.length = n → NrS s → nrmL 0 (endS s)
  | 0, s, hn, h => by rw [List.length_eq_zero_iff.1 hn] at h; exact h.elim
  | n + 1, s, hn, h => by
    cases s with
    | nil => exact h.elim
    | cons f r =>
      cases r with
      | nil => rw [endS]; exact h.2
      | cons g r =>
        rw [endS]
        exact NrS.ends n _ (by simpa using hn) h.shut
/-- what is read is as reading makes it -/
theorem parse_nrm (l : List Tk) : nrmL 0 (parse l) := by
  rw [parse_stack]
  exact NrS.ends _ _ rfl (NrS.run l _ ⟨rfl, by rw [nrmL]; trivial⟩)
/-- the tokens of values are read as those values -/
theorem fold_flat : ∀ (l : List Vt) (f : Frm) (r : List Frm), nrmL (clo f.tok.k) l → (r = [] ∨ clo f.tok.k ≠ 0) → (flatL l).foldl stepS (f :: r) = ⟨f.tok, f.kids ++ l⟩ :: r
  | [], f, r, _, _ => by simp [flatL]
  | .mk t ks :: l, f, r, hn, hr => by
    rw [nrmL, nrmV] at hn
    obtain ⟨⟨h1, h2, h3⟩, h4⟩ := hn
    rw [flatL_cons, List.foldl_append, List.foldl_cons, List.foldl_append]
    by_cases hc : clo t.k = 0
    · have hk := h3 hc
      subst hk
      have hs : stepS (f :: r) t = ⟨f.tok, f.kids ++ [Vt.mk t []]⟩ :: r := by
        cases r with
        | nil => unfold stepS; simp only; rw [if_neg (by simpa using hc)]; rfl
        | cons g r =>
          unfold stepS; simp only
          rcases hr with hr | hr
          · cases hr
          rcases h1 with h1 | h1
          · exact absurd h1 hr
          rw [if_neg h1, if_neg (by simpa using hc)]; rfl
      rw [hs, if_neg (by simpa using hc)]
      simp only [flatL, List.foldl_nil]
      rw [fold_flat l ⟨f.tok, f.kids ++ [Vt.mk t []]⟩ r h4 hr]
      simp
    · have hs : stepS (f :: r) t = ⟨t, []⟩ :: f :: r := by
        cases r with
        | nil => unfold stepS; simp only; rw [if_pos hc]
        | cons g r => unfold stepS; simp only; rw [if_neg (clo_open hc), if_pos hc]
      rw [hs, if_pos hc, fold_flat ks ⟨t, []⟩ (f :: r) h2 (.inr hc)]
      have hs2 : [shutTk t.k].foldl stepS (⟨t, [] ++ ks⟩ :: f :: r) = ⟨f.tok, f.kids ++ [Vt.mk t ks]⟩ :: r := by
        rw [List.foldl_cons, List.foldl_nil]
        unfold stepS
        simp only
        rw [if_pos (show (shutTk t.k).k = clo t.k from rfl)]
        simp [addS]
      rw [hs2, fold_flat l ⟨f.tok, f.kids ++ [Vt.mk t ks]⟩ r h4 hr]
      simp
termination_by l => nodesL l
decreasing_by all_goals (simp [nodesL, Vt.nodes]; try omega)
theorem parse_flat {v : List Vt} (h : nrmL 0 v) : parse (flatL v) = v := by
  rw [parse_stack, fold_flat v ⟨zeroTk, []⟩ [] h (.inl rfl), endS]
  simp
/-- tokens none of which is a use -/
def FrS (s : List Frm) : Prop := ∀ f ∈ s, useT (.mk f.tok []) = false ∧ hasL f.kids = false
theorem FrS.add {s : List Frm} {x : Vt} (h : FrS s) (hx : hasL [x] = false) : FrS (addS s x) := by
  cases s with
  | nil => exact h
  | cons f r =>
    intro g hg
    rcases List.mem_cons.1 hg with rfl | hg
    · obtain ⟨h1, h2⟩ := h f (by simp)
      exact ⟨h1, by simp only; rw [hasL_app, h2, hx]; rfl⟩
    · exact h g (by simp [hg])
theorem FrS.tail {f : Frm} {s : List Frm} (h : FrS (f :: s)) : FrS s := fun g hg => h g (by simp [hg])
theorem FrS.shut {f : Frm} {s : List Frm} (h : FrS (f :: s)) : FrS (addS s (.mk f.tok f.kids)) := by
  obtain ⟨h1, h2⟩ := h f (by simp)
  exact h.tail.add (by rw [hasL_cons, h1, h2]; rfl)
theorem FrS.push {t : Tk} {s : List Frm} (h : FrS s) (ht : useT (.mk t []) = false) : FrS (⟨t, []⟩ :: s) := fun g hg => by
  rcases List.mem_cons.1 hg with rfl | hg
  · exact ⟨ht, rfl⟩
  · exact h g hg
theorem FrS.step {s : List Frm} (h : FrS s) {t : Tk} (ht : useT (.mk t []) = false) : FrS (stepS s t) := by
  have hl : hasL [.mk t []] = false := by rw [hasL_cons, ht]; rfl
  unfold stepS
  split
  · exact h
  · split
    · exact h.push ht
    · exact h.add hl
  · split
    · exact h.shut
    · split
      · exact h.push ht
      · exact h.add hl
theorem FrS.run : ∀ (l : List Tk) (s : List Frm), FrS s → (∀ t ∈ l, useT (.mk t []) = false) → FrS (l.foldl stepS s)
  | [], _, h, _ => h
  | t :: l, s, h, ht => FrS.run l _ (h.step (ht t (by simp))) fun x hx => ht x (by simp [hx])
theorem FrS.ends : ∀ (n : Nat) (s : List Frm), s.length = n → FrS s → hasL (endS s) = false
  | 0, s, hn, h => by rw [List.length_eq_zero_iff.1 hn, endS]; rfl
  | n + 1, s, hn, h => by
    cases s with
    | nil => simp at hn
    | cons f r =>
      cases r with
      | nil => rw [endS]; exact (h f (by simp)).2
      | cons g r =>
        rw [endS]
        exact FrS.ends n _ (by simpa using hn) h.shut
theorem parse_free {l : List Tk} (h : ∀ t ∈ l, useT (.mk t []) = false) : hasL (parse l) = false := by
  rw [parse_stack]
  refine FrS.ends _ _ rfl (FrS.run l _ (fun f hf => ?_) h)
  rw [List.mem_singleton.1 hf]
  exact ⟨rfl, rfl⟩
theorem all_no {k : Known} {l : List Tk} (h : mayV 64 (parse l) = false) : putAll k l = ([], 1) := by unfold putAll; rw [if_pos h]
theorem all_flat {k : Known} {l : List Tk} (h : mayV 64 (parse l) = true) (hh : hasL (parse l) = false) : putAll k l = if 512 < (flatL (parse l)).length then ([], 11) else (flatL (parse l), 0) := by
  unfold putAll
  rw [if_neg (by rw [h]; decide), (putPR_same k 65 (parse l) [] (by decide)).1, put_flat k 64 _ _ h hh (by decide)]
  unfold moreT
  simp only [List.length_nil, Nat.zero_add, List.nil_append]
  by_cases h5 : 512 < (flatL (parse l)).length
  · rw [if_pos h5, if_pos h5]
  · rw [if_neg h5, if_neg h5]
    simp only
    rw [parse_flat (parse_nrm l), if_pos h]
theorem all_err {k : Known} {l : List Tk} (h : mayV 64 (parse l) = true) : putAll k l = ([], 11) ∨ ∃ o, putAll k l = (o, 0) ∧ o.length ≤ 512 ∧ ((∀ nm ts, k nm = some ts → ∀ t ∈ ts, useT (.mk t []) = false) → hasL (parse o) = false) := by
  unfold putAll
  rw [if_neg (by rw [h]; decide)]
  obtain ⟨h1, h2⟩ := putPR_same k 65 (parse l) [] (by decide)
  cases hp : putP k 65 [] (parse l) with
  | none => exact .inl rfl
  | some o =>
    simp only
    split
    · exact .inr ⟨o, rfl, h2 o hp, fun hk => parse_free (put_free k hk 65 _ _ o (fun t ht => by cases ht) (h1.symm.trans hp))⟩
    · exact .inl rfl
/-- does a token open something, or close it? -/
def joinT (t : Tk) : Bool := decide (clo t.k ≠ 0) || decide (t.k = 24) || decide (t.k = 22) || decide (t.k = 20)
theorem join_free {cus : List Cu} (h : ∀ c ∈ cus, c.ts.any joinT = false) : ∀ nm ts, findCu cus nm = some ts → ∀ t ∈ ts, useT (.mk t []) = false := by
  intro nm ts hf t ht
  unfold findCu at hf
  split at hf
  · cases hq : cus.reverse.find? (fun c => decide (c.n = nm)) with
    | none => rw [hq] at hf; cases hf
    | some c =>
      rw [hq] at hf
      cases hf
      have hc := List.mem_reverse.1 (List.mem_of_find?_eq_some hq)
      have hj := h c hc
      rw [List.any_eq_false] at hj
      have hjt := hj t ht
      have : t.k ≠ 2 := fun e => hjt (by unfold joinT; rw [e]; rfl)
      show (decide (t.k = 2) && _) = false
      rw [decide_eq_false this]; rfl
  · cases hf
end Go

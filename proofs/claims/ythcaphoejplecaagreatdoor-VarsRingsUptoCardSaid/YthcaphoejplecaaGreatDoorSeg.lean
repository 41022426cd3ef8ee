/- REGIONS THAT DRAW THEIR ORDER, WALKED ONCE IN THE TEXT's ORDER, where their calls stand in one chain and all else yields one value in every world that has grown. Laws over any program. No condition. -/
import Derived.Test.YthcaphoejplecaaGreatDoorTail
set_option linter.unusedSimpArgs false
set_option linter.unusedVariables false
namespace Go
open Go.RowKit

/-- No call of a Go function, nor of a builtin but len and cap; nothing that makes or writes memory; nothing of goroutines. -/
def freeOp (o : Oper) : Bool :=
  match o.op with
  | .call c => (match c.callee with | .builtin .len => true | .builtin .cap => true | _ => false)
  | .go _ | .defer _ | .send .. | .recv .. | .select .. => false
  | .alloc _ | .box .. | .buildSlice .. | .makeSlice .. | .store .. | .mapUpdate .. => false
  | _ => true

theorem run_val {P : Program} {s : Sem Value} {w w' : World} {n : Next} (h : (do pure (Next.value (← s)) : Sem Next).run P w = .ok n w') : ∃ x, n = .value x := by
  simp only [Sem.run_bind] at h
  cases hs : s.run P w with
  | ok x w1 => rw [hs] at h; simp only [Result.andThen_ok, Sem.run_pure, Result.ok.injEq] at h; exact ⟨x, h.1.symm⟩
  | halt x w1 => rw [hs] at h; simp [Result.andThen] at h

theorem run_unit {P : Program} {s : Sem Unit} {w w' : World} {n : Next} (h : (do s; pure Next.skip : Sem Next).run P w = .ok n w') : n = .skip := by
  simp only [Sem.run_bind] at h
  cases hs : s.run P w with
  | ok x w1 => rw [hs] at h; simp only [Result.andThen_ok, Sem.run_pure, Result.ok.injEq] at h; exact h.1.symm
  | halt x w1 => rw [hs] at h; simp [Result.andThen] at h

/-- What a bind ends in, its last step ends in. -/
theorem run_last {P : Program} {α : Type} {s : Sem α} {k : α → Sem Next} {w w' : World} {n : Next} (h : (s >>= k).run P w = .ok n w') : ∃ x w1, (k x).run P w1 = .ok n w' := by
  simp only [Sem.run_bind] at h
  cases hs : s.run P w with
  | ok x w1 => rw [hs] at h; exact ⟨x, w1, h⟩
  | halt x w1 => rw [hs] at h; simp [Result.andThen] at h

theorem free_noEnter {P : Program} {ρ : Operand → Value} {o : Oper} {w w' : World} {f : FuncId} {as' : Array Value} (hf : freeOp o = true) (h : (execOp ρ o).run P w = .ok (.enter f as') w') : False := by
  obtain ⟨dst, op, ty, pos, after, guard⟩ := o
  cases op
  case call c =>
    obtain ⟨callee, cas, ats⟩ := c
    cases callee with
    | builtin b =>
      rw [BigFrame.execOp_builtin] at h
      cases b <;> simp [freeOp] at hf
      · simp only [BigFrame.builtin_cap] at h; obtain ⟨x, hx⟩ := run_val h; cases hx
      · simp only [BigFrame.builtin_len] at h; obtain ⟨x, hx⟩ := run_val h; cases hx
    | _ => simp [freeOp] at hf
  case nilCheck x =>
    simp only [execOp] at h
    generalize ρ x = v at h
    split at h
    · simp [runtimePanic] at h
    · simp [runtimePanic] at h
    · simp [runtimePanic] at h
    · split at h
      · simp [runtimePanic] at h
      · obtain ⟨a, w1, h1⟩ := run_last h
        obtain ⟨b, w2, h2⟩ := run_last h1
        split at h2
        · obtain ⟨c, w3, h3⟩ := run_last h2; simp at h3
        · simp at h2
      · simp at h
    · simp at h
  case pick c a b =>
    simp only [execOp] at h
    obtain ⟨x, w1, h1⟩ := run_last h
    simp at h1
  case go c => simp [freeOp] at hf
  case defer c => simp [freeOp] at hf
  case send => simp [freeOp] at hf
  case recv => simp [freeOp] at hf
  case select => simp [freeOp] at hf
  all_goals simp only [execOp] at h
  all_goals first
    | (obtain ⟨x, hx⟩ := run_val h; cases hx; done)
    | (have hx := run_unit h; cases hx; done)
    | (simp at h; done)

section
variable {P : Program} {ops : Array Oper} {md : Region.Mode} {S : World → Prop}

/-- An operation carried out in this very world, which gives a value, or nothing. -/
def Oper.chainUpon (P : Program) (o : Oper) (a : Act) (K : Act → World → Prop) : Result Next → Prop
  | .ok (.value v) w' => K (a.put o.dst v) w'
  | .ok .skip w' => K (a.put o.dst undef) w'
  | .ok (.enter f args) w' => Calls P f args w' fun e w'' => ∃ v, e = .returned v ∧ K (a.put o.dst v) w''
  | _ => False
def Oper.chain (P : Program) (o : Oper) (a : Act) (w : World) (K : Act → World → Prop) : Prop := o.chainUpon P a K ((execOp a.eval o).run P w)

theorem Oper.chain_mono {o : Oper} {a : Act} {w : World} {K K' : Act → World → Prop} (hk : ∀ v w', K (a.put o.dst v) w' → K' (a.put o.dst v) w') (h : o.chain P a w K) : o.chain P a w K' := by
  unfold Oper.chain at *
  generalize (execOp a.eval o).run P w = r at *
  cases r with
  | ok n w' => cases n <;> simp only [Oper.chainUpon] at * <;> first | exact hk _ _ h | exact h.mono fun _ _ ⟨v, he, hv⟩ => ⟨v, he, hk _ _ hv⟩
  | halt x w' => exact h

theorem Oper.chain_some {o : Oper} {a : Act} {w : World} {K : Act → World → Prop} (h : o.chain P a w K) : ∃ v w', K (a.put o.dst v) w' := by
  unfold Oper.chain at h
  generalize (execOp a.eval o).run P w = r at *
  cases r with
  | ok n w' =>
    cases n <;> simp only [Oper.chainUpon] at h
    case value v => exact ⟨v, w', h⟩
    case skip => exact ⟨undef, w', h⟩
    case enter f args =>
      obtain ⟨e, w2, fr, ⟨v, _, hk⟩, _⟩ := h []
      exact ⟨v, w2, hk⟩
  | halt x w' => simp only [Oper.chainUpon] at h

theorem Oper.wp_of_chain {o : Oper} {a : Act} {w : World} {K : Act → World → Prop} {Q' : Exit → Act → World → Prop} (h : o.chain P a w K) : o.wp P a w K Q' := by
  unfold Oper.chain at h
  unfold Oper.wp
  generalize (execOp a.eval o).run P w = r at *
  cases r with
  | ok n w' =>
    cases n <;> simp only [Oper.chainUpon] at h <;> simp only [Oper.upon]
    case value v => exact h
    case skip => exact h
    case enter f args => exact h.mono fun e w'' ⟨v, he, hk⟩ => by subst he; exact hk
  | halt x w' => simp only [Oper.chainUpon] at h

/-- Carried out with another temporary already written: it makes no difference. -/
theorem Oper.chain_unput {o : Oper} {a : Act} {w : World} {x : Option Tmp} {v : Value} {K : Act → World → Prop} (he : execOp (a.put x v).eval o = execOp a.eval o) (hx : ∀ d, x = some d → o.dst ≠ some d)
    (h : o.chain P (a.put x v) w K) : o.chain P a w fun a' w' => K (a'.put x v) w' := by
  unfold Oper.chain at *
  rw [he] at h
  generalize (execOp a.eval o).run P w = r at *
  cases r with
  | ok n w' =>
    cases n <;> simp only [Oper.chainUpon] at *
    case value u => rw [← Act.put_comm a v u hx]; exact h
    case skip => rw [← Act.put_comm a v undef hx]; exact h
    case enter f args => exact h.mono fun e w'' ⟨u, he, hk⟩ => ⟨u, he, by rw [← Act.put_comm a v u hx]; exact hk⟩
  | halt x w' => exact h
theorem Oper.chain_put {o : Oper} {a : Act} {w : World} {x : Option Tmp} {v : Value} {K : Act → World → Prop} (he : execOp (a.put x v).eval o = execOp a.eval o) (hx : ∀ d, x = some d → o.dst ≠ some d)
    (h : o.chain P a w fun a' w' => K (a'.put x v) w') : o.chain P (a.put x v) w K := by
  unfold Oper.chain at *
  rw [he]
  generalize (execOp a.eval o).run P w = r at *
  cases r with
  | ok n w' =>
    cases n <;> simp only [Oper.chainUpon] at *
    case value u => rw [Act.put_comm a v u hx]; exact h
    case skip => rw [Act.put_comm a v undef hx]; exact h
    case enter f args => exact h.mono fun e w'' ⟨u, he, hk⟩ => ⟨u, he, by rw [Act.put_comm a v u hx]; exact hk⟩
  | halt x w' => exact h

/-- It is free and yields this value in every world of the class; or it is passed over. -/
def YieldsFree (P : Program) (ops : Array Oper) (S : World → Prop) (o : Oper) (v : Value) (a : Act) : Prop :=
  (Region.wanted o (yielded ops a.tmps) = true ∧ freeOp o = true ∧ ∀ w, S w → o.quietAt P a S w v) ∨ (Region.wanted o (yielded ops a.tmps) = false ∧ v = undef)

theorem YieldsFree.of_same {o : Oper} {v : Value} {a a' : Act} (hy : YieldsFree P ops S o v a) (he : execOp a'.eval o = execOp a.eval o)
    (hw : Region.wanted o (yielded ops a'.tmps) = Region.wanted o (yielded ops a.tmps)) : YieldsFree P ops S o v a' := by
  unfold YieldsFree Oper.quietAt at *
  rw [he, hw]
  exact hy

theorem YieldsFree.unique {o : Oper} {v v' : Value} {a : Act} {w : World} (hS : S w) (h : YieldsFree P ops S o v a) (h' : YieldsFree P ops S o v' a) : v = v' := by
  rcases h with ⟨hw, hf, hq⟩ | ⟨hw, rfl⟩ <;> rcases h' with ⟨hw', _, hq'⟩ | ⟨hw', rfl⟩
  · have h1 := hq w hS
    have h2 := hq' w hS
    unfold Oper.quietAt at h1 h2
    cases hr : (execOp a.eval o).run P w with
    | ok n w1 =>
      rw [hr] at h1 h2
      cases n <;> simp only [Oper.quietUpon] at h1 h2
      case value u => exact h1.2.symm.trans h2.2
      case skip => exact h1.2.trans h2.2.symm
      case enter f args => exact (free_noEnter hf hr).elim
    | halt x w1 => rw [hr] at h1; simp only [Oper.quietUpon] at h1
  · rw [hw] at hw'; cases hw'
  · rw [hw] at hw'; cases hw'
  · rfl

/-- One operation of the walk in the text's order. -/
def stepI (P : Program) (ops : Array Oper) (S : World → Prop) (o : Oper) (a : Act) (w : World) (K : Act → World → Prop) : Prop :=
  (∃ v, YieldsFree P ops S o v a ∧ K (a.put o.dst v) w) ∨
  (Region.wanted o (yielded ops a.tmps) = true ∧ freeOp o = false ∧ o.chain P a w fun a' w' => S w' ∧ K a' w')

/-- The operations of these numbers, one by one. -/
def wpSeqI (P : Program) (ops : Array Oper) (S : World → Prop) (F : Act → World → Prop) : List Nat → Act → World → Prop
  | [], a, w => F a w
  | i :: r, a, w => ∃ o, ops[i]? = some o ∧ stepI P ops S o a w (wpSeqI P ops S F r)

/-- One that waits for none of those ahead of it may be taken out and carried out first. -/
theorem wpSeqI_extract {F : Act → World → Prop} {i : Nat} {oi : Oper} (hi : ops[i]? = some oi) (hsel : ∀ (j : Nat) (o : Oper) cs b, ops[j]? = some o → o.op ≠ .select cs b) :
    ∀ (pre post : List Nat) (a : Act) (w : World), S w → (∀ j ∈ pre, ∀ oj, ops[j]? = some oj → oj.apart ops oi = true ∧ (freeOp oj = false → freeOp oi = true)) →
      wpSeqI P ops S F (pre ++ i :: post) a w → stepI P ops S oi a w (wpSeqI P ops S F (pre ++ post)) := by
  intro pre
  induction pre with
  | nil =>
    intro post a w _ _ h
    obtain ⟨o, ho, hs⟩ := h
    rw [Option.some.inj (hi.symm.trans ho)]
    exact hs
  | cons j pre ih =>
    intro post a w hS hap h
    obtain ⟨oj, hj, hs⟩ := h
    obtain ⟨hapj, hfr⟩ := hap j List.mem_cons_self oj hj
    obtain ⟨h1, h2, h3⟩ := Oper.apart_spec hapj
    have h2' : ∀ d, oi.dst = some d → oj.dst ≠ some d := fun d hd he => h2 d he hd
    have hap' : ∀ k ∈ pre, ∀ ok, ops[k]? = some ok → ok.apart ops oi = true ∧ (freeOp ok = false → freeOp oi = true) := fun k hk => hap k (List.mem_cons_of_mem _ hk)
    have ei : ∀ (b : Act) (v : Value), execOp (b.put oj.dst v).eval oi = execOp b.eval oi := fun b v => execOp_put oi (fun cs c => hsel i oi cs c hi) b oj.dst v h1
    have wi : ∀ (b : Act) (v : Value), Region.wanted oi (yielded ops (b.put oj.dst v).tmps) = Region.wanted oi (yielded ops b.tmps) := fun b v => wanted_put oi b oj.dst v h1
    have ej : ∀ (b : Act) (v : Value), execOp (b.put oi.dst v).eval oj = execOp b.eval oj := fun b v => execOp_put oj (fun cs c => hsel j oj cs c hj) b oi.dst v h3
    have wj : ∀ (b : Act) (v : Value), Region.wanted oj (yielded ops (b.put oi.dst v).tmps) = Region.wanted oj (yielded ops b.tmps) := fun b v => wanted_put oj b oi.dst v h3
    rcases hs with ⟨vj, hyj, hk⟩ | ⟨hwj, hfj, hch⟩
    · have hs' := ih post _ w hS hap' hk
      rcases hs' with ⟨vi, hyi, hk'⟩ | ⟨hwi, hfi, hci⟩
      · refine .inl ⟨vi, hyi.of_same (ei a vj).symm (wi a vj).symm, oj, hj, .inl ⟨vj, hyj.of_same (ej a vi) (wj a vi), ?_⟩⟩
        rw [← Act.put_comm a vj vi h2]; exact hk'
      · refine .inr ⟨by rw [← wi a vj]; exact hwi, hfi, ?_⟩
        have hc := Oper.chain_unput (ei a vj) h2 hci
        refine Oper.chain_mono (fun u w' hh => ⟨hh.1, oj, hj, .inl ⟨vj, hyj.of_same (ej a u) (wj a u), hh.2⟩⟩) hc
    · have hfi := hfr hfj
      have left : ∀ u w', S w' ∧ wpSeqI P ops S F (pre ++ i :: post) (a.put oj.dst u) w' → ∃ vi, YieldsFree P ops S oi vi a ∧ wpSeqI P ops S F (pre ++ post) ((a.put oj.dst u).put oi.dst vi) w' := fun u w' hh => by
        rcases ih post _ w' hh.1 hap' hh.2 with ⟨vi, hyi, hk'⟩ | ⟨_, hfi', _⟩
        · exact ⟨vi, hyi.of_same (ei a u).symm (wi a u).symm, hk'⟩
        · rw [hfi] at hfi'; cases hfi'
      obtain ⟨u0, w0, hh0⟩ := Oper.chain_some hch
      obtain ⟨vi, hyi, _⟩ := left u0 w0 hh0
      refine .inl ⟨vi, hyi, oj, hj, .inr ⟨by rw [wj a vi]; exact hwj, hfj, ?_⟩⟩
      refine Oper.chain_put (ej a vi) h2' (Oper.chain_mono (fun u w' hh => ?_) hch)
      obtain ⟨vi', hyi', hk'⟩ := left u w' hh
      rw [YieldsFree.unique hS hyi hyi']
      exact ⟨hh.1, hk'⟩

/-- Of two of the first n the later one waits for the earlier one, or they are apart. -/
def pairsB (md : Region.Mode) (ops : Array Oper) (n : Nat) : Bool :=
  (List.range n).all fun i => (List.range i).all fun j => Region.waitsFor md ops i j || (match ops[j]?, ops[i]? with | some oj, some oi => oj.apart ops oi | _, _ => false)
def notFree (ops : Array Oper) (i : Nat) : Bool := !(ops[i]?.map freeOp).getD true
/-- The last one ahead of i that is not free. -/
def prevNF (ops : Array Oper) : Nat → Option Nat
  | 0 => none
  | k + 1 => if notFree ops k then some k else prevNF ops k
theorem prevNF_spec {j : Nat} (hj : notFree ops j = true) : ∀ i, j < i → ∃ p, prevNF ops i = some p ∧ j ≤ p ∧ p < i ∧ notFree ops p = true
  | 0, h => absurd h (Nat.not_lt_zero j)
  | k + 1, h => by
    unfold prevNF
    cases hk : notFree ops k with
    | true => exact ⟨k, by simp, by omega, by omega, hk⟩
    | false =>
      have hne : j ≠ k := fun e => by rw [e, hk] at hj; cases hj
      obtain ⟨p, h1, h2, h3, h4⟩ := prevNF_spec hj k (by omega)
      exact ⟨p, by simp [h1], h2, by omega, h4⟩
/-- i waits for j, by however many steps, over those between them. -/
def reachB (md : Region.Mode) (ops : Array Oper) : Nat → Nat → Nat → Bool
  | 0, _, _ => false
  | f + 1, i, j => Region.waitsFor md ops i j || (List.range i).any fun k => decide (j < k) && Region.waitsFor md ops i k && reachB md ops f k j
/-- What is not free stands in one chain. -/
def chainsB (md : Region.Mode) (ops : Array Oper) (n : Nat) : Bool :=
  (List.range n).all fun i => !notFree ops i || (match prevNF ops i with | some p => reachB md ops n i p | none => true)

theorem reachB_listed {listed : Array Bool} (hcl : ∀ j oj, ops[j]? = some oj → listed.getD j false = true → ∀ e ∈ oj.after, Region.binds md e = true → listed.getD e.on false = true) :
    ∀ (f i j : Nat) (oi : Oper), ops[i]? = some oi → (∀ e ∈ oi.after, Region.binds md e = true → listed.getD e.on false = true) → reachB md ops f i j = true → listed.getD j false = true := by
  intro f
  induction f with
  | zero => intro i j oi _ _ h; simp [reachB] at h
  | succ f ih =>
    intro i j oi hoi hall h
    have direct : ∀ k, Region.waitsFor md ops i k = true → listed.getD k false = true := fun k hk => by
      obtain ⟨o', ho', e, he, hb, hon⟩ := Region.waitsFor_spec hk
      have : o' = oi := Option.some.inj (ho'.symm.trans hoi)
      subst this
      rw [← hon]; exact hall e he hb
    simp only [reachB, Bool.or_eq_true] at h
    rcases h with h | h
    · exact direct j h
    · obtain ⟨k, _, hk2⟩ := List.any_eq_true.1 h
      simp only [Bool.and_eq_true, decide_eq_true_eq] at hk2
      have hlk := direct k hk2.1.2
      cases hok : ops[k]? with
      | none => 
        cases f with
        | zero => simp [reachB] at hk2
        | succ f =>
          have h3 := hk2.2
          simp only [reachB, Region.waitsFor, hok, Bool.and_false, Bool.false_and, Bool.false_or] at h3
          simp at h3
      | some ok => exact ih k j ok hok (hcl k ok hok hlk) hk2.2

theorem pairsB_spec {n i j : Nat} {oi oj : Oper} (h : pairsB md ops n = true) (hi : i < n) (hj : j < i) (hoi : ops[i]? = some oi) (hoj : ops[j]? = some oj) : Region.waitsFor md ops i j = true ∨ oj.apart ops oi = true := by
  have h1 := List.all_eq_true.1 (List.all_eq_true.1 h i (List.mem_range.2 hi)) j (List.mem_range.2 hj)
  simpa [hoi, hoj] using h1

theorem notFree_of {i : Nat} {oi : Oper} (h : ops[i]? = some oi) : notFree ops i = !freeOp oi := by simp [notFree, h]

/-- Where a link of the chain has come up, all links ahead of it have. -/
theorem chain_listed {n : Nat} {listed : Array Bool} (h : chainsB md ops n = true) (hcl : ∀ j oj, ops[j]? = some oj → listed.getD j false = true → ∀ e ∈ oj.after, Region.binds md e = true → listed.getD e.on false = true) :
    ∀ (i j : Nat) (oi oj : Oper), i < n → j < i → ops[i]? = some oi → ops[j]? = some oj → freeOp oi = false → freeOp oj = false → (∀ e ∈ oi.after, Region.binds md e = true → listed.getD e.on false = true) → listed.getD j false = true := by
  intro i
  induction i using Nat.strongRecOn with
  | _ i ih =>
    intro j oi oj hi hj hoi hoj hfi hfj hall
    obtain ⟨p, hp, hjp, hpi, hfp⟩ := prevNF_spec (ops := ops) (j := j) (by rw [notFree_of hoj, hfj]; rfl) i hj
    have h1 := List.all_eq_true.1 h i (List.mem_range.2 hi)
    rw [notFree_of hoi, hfi, hp] at h1
    simp only [Bool.not_false, Bool.not_true, Bool.false_or] at h1
    have hlp := reachB_listed hcl n i p oi hoi hall h1
    by_cases hjp' : j = p
    · subst hjp'; exact hlp
    · cases hok : ops[p]? with
      | none => simp [notFree, hok] at hfp
      | some op =>
        have hfp' : freeOp op = false := by rw [notFree_of hok] at hfp; simpa using hfp
        exact ih p hpi j op oj (by omega) (by omega) hok hoj hfp' hfj (hcl p op hok hlp)

theorem wpOp_of_stepI {i : Nat} {oi : Oper} {a : Act} {w : World} {K : Act → World → Prop} {Q' : Exit → Act → World → Prop} (hi : ops[i]? = some oi) (hS : S w)
    (h : stepI P ops S oi a w K) : wpOp P ops Q' i (fun a' w' => S w' ∧ K a' w') a w := by
  unfold wpOp
  simp only [hi]
  rcases h with ⟨v, hy, hk⟩ | ⟨hw, hf, hc⟩
  · rcases hy with ⟨hw, hf, hq⟩ | ⟨hw, rfl⟩
    · simp only [hw, if_true]
      refine .inl ?_
      have h1 := hq w hS
      unfold Oper.quietAt at h1
      unfold Oper.wp
      cases hr : (execOp a.eval oi).run P w with
      | ok m w1 =>
        rw [hr] at h1
        cases m <;> simp only [Oper.quietUpon] at h1 <;> simp only [Oper.upon]
        case value u => rw [h1.1, h1.2]; exact ⟨hS, hk⟩
        case skip => rw [h1.1, ← h1.2]; exact ⟨hS, hk⟩
        case enter f args => exact (free_noEnter hf hr).elim
      | halt x w1 => rw [hr] at h1; simp only [Oper.quietUpon] at h1
    · simp only [hw, Bool.false_eq_true, if_false]
      exact ⟨hS, hk⟩
  · simp only [hw, if_true]
    exact .inl (Oper.wp_of_chain hc)

theorem wpAny_of_seqI {n g : Nat} {F : Act → World → Prop} {Q' : Exit → Act → World → Prop} {tl : List Oper} (hsel : Region.noSelect ops = true) (hB : headB md ops n = true) (hpB : pairsB md ops n = true) (hcB : chainsB md ops n = true)
    (htail : ∀ (listed : Array Bool), HeadInv md ops n listed → ∀ i, i < n → listed.getD i true = false → ∀ t, n ≤ t → t ∉ Region.ready md ops listed) (hn : n ≤ ops.size) (hg : tl.length = g) (htl : ∀ j, tl[j]? = ops[n + j]?)
    (hseq : ∀ listed : Array Bool, listed.size = ops.size → (∀ i, i < n → listed.getD i true = true) → (∀ t, n ≤ t → t < ops.size → listed.getD t true = false) → Region.seqB md ops g n listed = true)
    (hL : ∀ a w, S w → F a w → wpList P ops Q' tl a w) :
    ∀ (m : Nat) (r : List Nat) (listed : Array Bool) (a : Act) (w : World), r.length = m → r.Pairwise (· < ·) → (∀ i, i < n → (listed.getD i true = false ↔ i ∈ r)) → (∀ i ∈ r, i < n) → HeadInv md ops n listed → S w →
      wpSeqI P ops S F r a w → wpAny P md ops Q' (m + g) listed a w := by
  intro m
  induction m with
  | zero =>
    intro r listed a w hm _ hr _ inv hS h
    obtain rfl : r = [] := List.eq_nil_of_length_eq_zero hm
    have hall : ∀ i, i < n → listed.getD i true = true := fun i hi => by
      cases hl : listed.getD i true with
      | true => rfl
      | false => exact absurd ((hr i hi).1 hl) (List.not_mem_nil)
    exact wpAny_of_seq_more tl n _ listed a w (by omega) htl (by rw [hg]; exact hseq listed inv.size hall inv.tail) (hL a w hS h)
  | succ m ih =>
    intro r listed a w hm hp hr hrn inv hS h
    rw [show m + 1 + g = (m + g) + 1 by omega]
    cases r with
    | nil => cases hm
    | cons r0 rs =>
      have hr0n : r0 < n := hrn r0 List.mem_cons_self
      have hun : listed.getD r0 true = false := (hr r0 hr0n).2 List.mem_cons_self
      have hnot := htail listed inv r0 hr0n hun
      have hr0 : r0 ∈ Region.ready md ops listed := by
        obtain ⟨o, ho, hlt, _⟩ := headB_spec hB hr0n
        refine mem_ready.2 ⟨hun, o, ho, fun e he hb => ?_⟩
        have h1 := hlt e he hb
        cases h3 : listed.getD e.on false with
        | true => rfl
        | false =>
          have h4 := getD_in (by rw [inv.size]; omega) h3
          have h5 := (hr e.on (by omega)).1 h4
          rcases List.mem_cons.1 h5 with h6 | h6
          · omega
          · have := List.rel_of_pairwise_cons hp h6; omega
      refine ⟨fun h0 => (by rw [h0] at hr0; cases hr0), fun i hi => ?_⟩
      have hin : i < n := by
        rcases Nat.lt_or_ge i n with h' | h'
        · exact h'
        · exact absurd hi (hnot i h')
      obtain ⟨hiun, oi, hoi, hall⟩ := mem_ready.1 hi
      have hir : i ∈ r0 :: rs := (hr i hin).1 hiun
      obtain ⟨pre, post, hpp⟩ := List.append_of_mem hir
      rw [hpp] at h hp hm hr hrn
      have hlt : ∀ j ∈ pre, j < i := fun j hj => (List.pairwise_append.1 hp).2.2 j hj i List.mem_cons_self
      have hstep := wpSeqI_extract hoi (Region.noSelect_spec hsel) pre post a w hS (fun j hj oj hoj => by
        have hji := hlt j hj
        have hjun : listed.getD j true = false := (hr j (by omega)).2 (List.mem_append_left _ hj)
        refine ⟨?_, fun hfj => ?_⟩
        · rcases pairsB_spec hpB hin hji hoi hoj with h1 | h1
          · obtain ⟨o', ho', e, he, hb, hon⟩ := Region.waitsFor_spec h1
            have : o' = oi := Option.some.inj (ho'.symm.trans hoi)
            subst this
            have h2 := hall e he hb
            rw [hon, getD_both hjun] at h2; cases h2
          · exact h1
        · cases hfi : freeOp oi with
          | true => rfl
          | false =>
            have h2 := chain_listed hcB inv.closed i j oi oj hin hji hoi hoj hfi hfj hall
            rw [getD_both hjun] at h2; cases h2) h
      refine wpOp_mono (fun a' w' hh => ?_) (wpOp_of_stepI (Q' := Q') hoi hS hstep)
      refine ih (pre ++ post) _ a' w' (by simp at hm ⊢; omega) ?_ ?_ ?_ (inv.set hi hin) hh.1 hh.2
      · exact List.Pairwise.sublist (List.Sublist.append (List.Sublist.refl _) (List.sublist_cons_self _ _)) hp
      · intro k hk
        by_cases hki : i = k
        · subst hki
          have hsz : i < listed.size := by rw [inv.size]; omega
          constructor
          · intro h1; simp [hsz] at h1
          · intro h1
            exfalso
            rcases List.mem_append.1 h1 with h1 | h1
            · have := hlt i h1; omega
            · have := List.rel_of_pairwise_cons (List.pairwise_append.1 hp).2.1 h1; omega
        · rw [getD_set_ne true hki, hr k hk]
          simp only [List.mem_append, List.mem_cons]
          constructor
          · rintro (h1 | h1 | h1)
            · exact .inl h1
            · exact absurd h1.symm hki
            · exact .inr h1
          · rintro (h1 | h1)
            · exact .inl h1
            · exact .inr (.inr h1)
      · intro k hk
        refine hrn k ?_
        simp only [List.mem_append, List.mem_cons] at hk ⊢
        rcases hk with h1 | h1
        · exact .inl h1
        · exact .inr (.inr h1)

/-- The operations of a list, one by one. -/
def wpSeqL (P : Program) (ops : Array Oper) (S : World → Prop) (F : Act → World → Prop) : List Oper → Act → World → Prop
  | [], a, w => F a w
  | o :: rest, a, w => stepI P ops S o a w (wpSeqL P ops S F rest)

theorem stepI_mono {o : Oper} {a : Act} {w : World} {K K' : Act → World → Prop} (hk : ∀ a w, K a w → K' a w) (h : stepI P ops S o a w K) : stepI P ops S o a w K' := by
  rcases h with ⟨v, hy, h⟩ | ⟨hw, hf, hc⟩
  · exact .inl ⟨v, hy, hk _ _ h⟩
  · exact .inr ⟨hw, hf, Oper.chain_mono (fun _ _ hh => ⟨hh.1, hk _ _ hh.2⟩) hc⟩

theorem wpSeqI_of_L {F : Act → World → Prop} : ∀ (l : List Oper) (k : Nat) (a : Act) (w : World), (∀ j, j < l.length → l[j]? = ops[k + j]?) → wpSeqL P ops S F l a w → wpSeqI P ops S F (List.range' k l.length) a w
  | [], _, _, _, _, h => h
  | o :: l, k, a, w, hl, h => by
    refine ⟨o, by simpa using (hl 0 (by simp)).symm, stepI_mono (fun a' w' hh => ?_) h⟩
    exact wpSeqI_of_L l (k + 1) a' w' (fun j hj => by have := hl (j + 1) (by simpa using hj); simpa [Nat.add_assoc, Nat.add_comm 1 j] using this) hh

/-- Some free operations at the head, walked as quiet ones are. -/
theorem wpSeqL_quiet {F : Act → World → Prop} {w : World} (rest : List Oper) : ∀ (fs : List Oper) (a : Act), fs.all freeOp = true → wpQuiet P ops S (fun a' => wpSeqL P ops S F rest a' w) fs a → wpSeqL P ops S F (fs ++ rest) a w
  | [], _, _, h => h
  | o :: fs, a, hf, h => by
    simp only [List.all_cons, Bool.and_eq_true] at hf
    unfold wpQuiet at h
    by_cases hw : Region.wanted o (yielded ops a.tmps) = true
    · rw [if_pos hw] at h
      obtain ⟨v, hq, hn⟩ := h
      exact .inl ⟨v, .inl ⟨hw, hf.1, hq⟩, wpSeqL_quiet rest fs _ hf.2 hn⟩
    · rw [if_neg hw] at h
      exact .inl ⟨undef, .inr ⟨by simpa using hw, rfl⟩, wpSeqL_quiet rest fs _ hf.2 h⟩
theorem wpSeqL_seg {F : Act → World → Prop} {w : World} {l : List Oper} {a : Act} (k : Nat) (hf : (l.take k).all freeOp = true) (h : wpQuiet P ops S (fun a' => wpSeqL P ops S F (l.drop k) a' w) (l.take k) a) : wpSeqL P ops S F l a w := by
  have := wpSeqL_quiet (l.drop k) (l.take k) a hf h
  rwa [List.take_append_drop] at this
theorem wpSeqL_free {F : Act → World → Prop} {w : World} {rest : List Oper} {o : Oper} {a : Act} (hf : freeOp o = true) (h : wpQuiet P ops S (fun a' => wpSeqL P ops S F rest a' w) [o] a) : wpSeqL P ops S F (o :: rest) a w :=
  wpSeqL_quiet rest [o] a (by simp [hf]) h
/-- A link of the chain. -/
theorem wpSeqL_link {F : Act → World → Prop} {w : World} {rest : List Oper} {o : Oper} {a : Act} (hf : freeOp o = false)
    (h : ∀ K : Act → World → Prop, (∀ a w, S w → wpSeqL P ops S F rest a w → K a w) → if Region.wanted o (yielded ops a.tmps) then o.chain P a w K else K (a.put o.dst undef) w) : wpSeqL P ops S F (o :: rest) a w := by
  by_cases hw : Region.wanted o (yielded ops a.tmps) = true
  · have h1 := h (fun a' w' => S w' ∧ wpSeqL P ops S F rest a' w') (fun _ _ hs hh => ⟨hs, hh⟩)
    rw [if_pos hw] at h1
    exact .inr ⟨hw, hf, h1⟩
  · have h1 := h (fun a' w' => wpSeqL P ops S F rest a' w') (fun _ _ _ hh => hh)
    rw [if_neg hw] at h1
    exact .inl ⟨undef, .inr ⟨by simpa using hw, rfl⟩, h1⟩
theorem wpSeqL_end {F : Act → World → Prop} {w : World} {a : Act} (h : F a w) : wpSeqL P ops S F [] a w := h

def seqOkB (md : Region.Mode) (l : List Oper) : Bool :=
  Region.noSelect l.toArray && headB md l.toArray l.length && pairsB md l.toArray l.length && chainsB md l.toArray l.length && (Region.ready md l.toArray (Array.replicate l.length true)).isEmpty
def seqTailB (md : Region.Mode) (l : List Oper) (n : Nat) : Bool :=
  Region.noSelect l.toArray && headB md l.toArray n && pairsB md l.toArray n && chainsB md l.toArray n && Region.sinkB md l.toArray n && Region.chainB md l.toArray n && decide (n < l.length) &&
    Region.seqB md l.toArray (l.length - n) n (Array.replicate n true ++ Array.replicate (l.length - n) false)

theorem inv0 (l : List Oper) (n : Nat) : HeadInv md l.toArray n (Array.replicate l.toArray.size false) :=
  ⟨by simp, fun j oj _ hl => (by rw [getD_replicate_false] at hl; cases hl), fun t _ ht => getD_in (by simpa using ht) (getD_replicate_false _ _)⟩

/-- **THE LAW**: one walk in the text's order. -/
theorem wp_region_seq {id : Nat} {Q : Exit → Act → World → Prop} {a : Act} {w : World} {l : List Oper} (hm : P.follows .mixedOrders = true) (hB : seqOkB .any l = true) (hS : S { w with drawn := w.drawn + 1 })
    (h : wpSeqL P l.toArray S (fun a' w' => Q .normal a' w') l a { w with drawn := w.drawn + 1 }) : (Code.region id l.toArray true).wp P Q a w := by
  simp only [seqOkB, Bool.and_eq_true, List.isEmpty_iff] at hB
  obtain ⟨⟨⟨⟨h1, h2⟩, h3⟩, h4⟩, h5⟩ := hB
  refine wp_region_any hm ?_
  have := wpAny_of_seqI (P := P) (S := S) (ops := l.toArray) (md := .any) (n := l.length) (g := 0) (tl := []) (Q' := Q) (F := fun a' w' => Q .normal a' w') h1 h2 h3 h4
    (fun listed inv i _ _ t ht hr => by
      obtain ⟨_, o, ho, _⟩ := mem_ready.1 hr
      have := (Array.getElem?_eq_some_iff.1 ho).1
      simp at this; omega) (by simp) rfl (fun j => by simp)
    (fun listed hs1 hs2 _ => by
      have : listed = Array.replicate l.length true := by
        apply Array.ext
        · simpa using hs1
        · intro i hi1 hi2
          have := hs2 i (by simpa using hi2)
          simp [hi1] at this; simp [this]
      rw [this]; simpa [Region.seqB] using h5)
    (fun a' w' _ hk => hk) l.length (List.range' 0 l.length) (Array.replicate l.toArray.size false) a { w with drawn := w.drawn + 1 } (by simp) (List.pairwise_lt_range' ..) (fun i hi => by simp [hi]) (fun i hi => by simpa using hi) (inv0 l _) hS
    (wpSeqI_of_L l 0 a _ (fun j hj => by simp) h)
  simpa using this

theorem wp_region_seq_tail {id : Nat} {Q : Exit → Act → World → Prop} {a : Act} {w : World} {l : List Oper} (n : Nat) (hm : P.follows .mixedOrders = true) (hB : seqTailB .any l n = true) (hS : S { w with drawn := w.drawn + 1 })
    (h : wpSeqL P l.toArray S (fun a' w' => wpList P l.toArray Q (l.drop n) a' w') (l.take n) a { w with drawn := w.drawn + 1 }) : (Code.region id l.toArray true).wp P Q a w := by
  simp only [seqTailB, Bool.and_eq_true, decide_eq_true_eq] at hB
  obtain ⟨⟨⟨⟨⟨⟨⟨h1, h2⟩, h3⟩, h4⟩, h5⟩, h6⟩, h7⟩, h8⟩ := hB
  refine wp_region_any hm ?_
  have hsz : (l.take n).length = n := by simp; omega
  have := wpAny_of_seqI (P := P) (S := S) (ops := l.toArray) (md := .any) (n := n) (g := l.length - n) (tl := l.drop n) (Q' := Q) (F := fun a' w' => wpList P l.toArray Q (l.drop n) a' w') h1 h2 h3 h4
    (fun listed inv i hi hun t ht => tail_waits h5 h6 (by simpa using h7) inv _ i rfl hi hun t ht) (by simp; omega) (by simp) (fun j => by simp [List.getElem?_drop])
    (fun listed hs1 hs2 hs3 => by rw [listed_eq (m := l.length) h7 (by simpa using hs1) hs2 (fun t ht ht' => hs3 t ht (by simpa using ht'))]; exact h8)
    (fun a' w' _ hk => hk) n (List.range' 0 n) (Array.replicate l.toArray.size false) a { w with drawn := w.drawn + 1 } (by simp) (List.pairwise_lt_range' ..) (fun i hi => by simp [hi]; rw [Array.getElem?_replicate, if_pos (by omega)]; rfl) (fun i hi => by simpa using hi) (inv0 l _) hS
    (by have := wpSeqI_of_L (ops := l.toArray) (l.take n) 0 a _ (fun j hj => by rw [hsz] at hj; simp [hj]) h; rwa [hsz] at this)
  rw [show n + (l.length - n) = l.toArray.size by simp; omega] at this
  exact this

end

attribute [go_sem] Oper.chain Oper.chainUpon

/-- The same at the class 'w with more blocks'. -/
theorem wp_region_plus_seq {P : Program} {id : Nat} {Q : Exit → Act → World → Prop} {a : Act} {w : World} {l : List Oper} (hm : P.follows .mixedOrders = true) (hB : seqOkB .any l = true)
    (h : ∀ x0, wpSeqL P l.toArray (fun w' => ∃ x, w' = w.plus x) (fun a' w' => Q .normal a' w') l a (w.plus x0)) : (Code.region id l.toArray true).wp P Q a w := by
  have e : ({ w with drawn := w.drawn + 1 } : World) = w.plus ⟨#[], w.drawn + 1⟩ := w.drew_is_plus
  refine wp_region_seq (S := fun w' => ∃ x, w' = w.plus x) hm hB ⟨_, e⟩ ?_
  rw [e]; exact h _
theorem wp_region_plus_seq_tail {P : Program} {id : Nat} {Q : Exit → Act → World → Prop} {a : Act} {w : World} {l : List Oper} (n : Nat) (hm : P.follows .mixedOrders = true) (hB : seqTailB .any l n = true)
    (h : ∀ x0, wpSeqL P l.toArray (fun w' => ∃ x, w' = w.plus x) (fun a' w' => wpList P l.toArray Q (l.drop n) a' w') (l.take n) a (w.plus x0)) : (Code.region id l.toArray true).wp P Q a w := by
  have e : ({ w with drawn := w.drawn + 1 } : World) = w.plus ⟨#[], w.drawn + 1⟩ := w.drew_is_plus
  refine wp_region_seq_tail (S := fun w' => ∃ x, w' = w.plus x) n hm hB ⟨_, e⟩ ?_
  rw [e]; exact h _

end Go

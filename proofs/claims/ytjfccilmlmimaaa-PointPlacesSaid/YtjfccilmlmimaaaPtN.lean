/- WALKS over point: point.New: lines by their names, in order. No condition but that the lines stand in memory and are not too many. -/
import Derived.Test.YtjfccilmlmimaaaPt1
import Derived.Test.YtjfccilmlmimaaaPtP
import Derived.Test.YtjfccilmlmimaaaMa
import Derived.Test.YtjfccilmlmimaaaSeqOwn
import Derived.Maps.RangeWalk
import Derived.StringKeys
import Derived.Carry
set_option linter.unusedSimpArgs false
set_option linter.unusedVariables false
namespace Go.Proofs.Ytjfccilmlmimaaa
open Go.RowKit Go.Maps

theorem zero_lines (w : World) : (zeroValue 22).run Try.prog w = .ok (.slice none 0 0) w := Try.zeroValue22 w

/-- an index of lines stands in memory -/
def Idx (W : World) (ix : Nat) (asked : Int) (B : Nat) (l : List Ln) : Prop := ∃ (b i : Nat) (D : DataW Value) (mv : List UInt8 → Value) (pp : List UInt8 → List Ln), (b < B ∧ B ≤ b + 2) ∧ (ix < B ∧ B ≤ ix + 2) ∧ ix ≠ b ∧ W.row ix = some (.cells #[.map (some b), .int .i64 asked] 60) ∧
  W.ownsMap Try.prog 9 heldR b i D ∧ MapV D mv ∧ RowsN W B 37 mv pp ∧ ∀ s, Srt (ofN l l.length s) (pp s)
/-- what the reads of a round need: the index, the line, what the map holds at its name -/
def NewS (ix : Nat) (o1 : Obj) (bx : Nat) (o2 : Obj) (b : Nat) (nm : ByteArray) (v0 : Value) (W : World) : Prop :=
  W.row ix = some o1 ∧ W.row bx = some o2 ∧ (Instr.lookup 51 (.map (some b)) (.string nm) false).run Try.prog W = .ok v0 W
theorem newLook {W : World} {b i : Nat} {D : DataW Value} {mv : List UInt8 → Value} {nm : ByteArray} (h : W.ownsMap Try.prog 9 heldR b i D) (hm : MapV D mv) (hs : nm.size ≤ maxLen) : (Instr.lookup 51 (.map (some b)) (.string nm) false).run Try.prog W = .ok (mv nm.data.toList) W := by
  obtain ⟨v, ps, hrun, hv⟩ := h.lookup (string_keyed Try.underlying9) Try.underlying51 (zero_lines W) (zd := nilS) (zp := []) rfl (WideMaps.keyOf_string_mk Try.underlying9 hs)
  rw [hm.2] at hv
  unfold heldR at hv
  simp only [Option.some.injEq, Prod.mk.injEq, DataW.held.injEq] at hv
  rw [hrun, hv.1]

set_option maxRecDepth 100000 in
theorem newNext {w : World} {ops : Array Oper} {rest : List Oper} {o : Oper} {a : Act} {Q : Exit → Act → World → Prop} {Y : List UInt8 → Nat → Nat → Nat → Prop} (hg : o.guard = none) (it : Operand) (hop : o.op = Op.next it false) (b r n : Nat) (D : DataW Value) (mv : List UInt8 → Value) (left : Lit → Bool) (cnt : Nat)
    (hit : a.eval it = .pointer (some ⟨r, 0, none⟩)) (h : w.ranges Try.prog 9 heldR b r n D left cnt) (hm : MapV D mv) (hrow : ∀ s, left (.string s) = true → ∃ g n cap, mv s = .slice (some ⟨g, 0, none⟩) n cap ∧ Y s g n cap)
    (hDone : cnt = 0 → Hid (∀ kl, left kl = false) → wpList Try.prog ops Q rest (a.put o.dst (.tuple #[.bool false])) w)
    (hMore : ∀ s g m cap w' cnt', Hid (Y s g m cap) → Hid (left (.string s) = true) → Hid (w'.ranges Try.prog 9 heldR b r n D (fun z => left z && !z.sameKey (.string s)) cnt') → cnt' < cnt → Hid (w.grownBy w' (some r)) → (Instr.entry (.pointer (some ⟨r, 0, none⟩))).run Try.prog w' = .ok (.tuple #[encStr s, .slice (some ⟨g, 0, none⟩) m cap]) w' →
      wpList Try.prog ops Q rest (a.put o.dst (.tuple #[.bool true, encStr s, .slice (some ⟨g, 0, none⟩) m cap])) w') :
    wpList Try.prog ops Q (o :: rest) a w := by
  refine wpList_next_ranges w hg it hop 9 (string_keyed Try.underlying9) heldR encStr (fun v : Value => v) (fun key kl hkey => by obtain ⟨x, e, _⟩ := keyOf_str Try.underlying9 hkey; exact ⟨x, e⟩) (fun v y _ => ⟨v, rfl⟩) b r n D left cnt hit h (fun h1 h2 => hDone h1 (Lib.hid h2)) ?_
  intro x c kl y w' cnt' hkey hlk hv hat hrg hlt hgr hsz hen
  obtain ⟨x', e, rfl, _⟩ := keyOf_str Try.underlying9 hkey
  obtain rfl := encStr_inj e
  obtain ⟨g, m, cap, em, hY⟩ := hrow x hlk
  have : c = mv x := by
    have h1 := hat nilS
    rw [hm.2] at h1
    unfold heldR at hv
    simp only [Option.some.injEq] at hv
    rw [← hv] at h1
    injection h1 with h1
    exact h1.symm
  subst this
  rw [em] at hen ⊢
  exact hMore x g m cap w' cnt' (Lib.hid hY) (Lib.hid hlk) (Lib.hid hrg) hlt (Lib.hid hgr) hen

set_option maxRecDepth 100000 in
set_option maxHeartbeats 8000000 in
theorem ptNew_any (a : Option Addr) (cap N : Nat) (l : List Ln) (w : World) (eN : l.length = N) (hN : N ≤ 1048576) (hs : SlAt w (fun _ => True) 5 LnR (.slice a N cap) l) :
    Calls Try.prog 12 #[.slice a N cap] w fun e w' => e = .returned (.pointer (some ⟨w.heap.size + 1, 0, none⟩)) ∧ w.grows w' ∧ Idx w' (w.heap.size + 1) 0 (w.heap.size + 2) l := by
  have EN := Lib.hid eN; have HS := Lib.hid hs
  have hNc : N ≤ cap ∧ cap ≤ 9223372036854775807 := by obtain ⟨_, _, e, h, h', _⟩ := hs; injection e with _ e2 e3; omega
  obtain ⟨hNc, hcc⟩ := hNc
  have hmk := fun (W : World) => run_makeMap (P := Try.prog) 51 W
  clear eN hs
  go_enter Try.func12, Try.ntmps12
  go_wp2_with fail
  have hmap0 : ((w.alloc (.map #[] 0)).alloc (.cells #[.map (some w.heap.size), .int .i64 0] 60)).ownsMap Try.prog 9 heldR w.heap.size 0 (.map []) := (World.ownsMap_made w _ _ _).alloc _
  clear hmk
  go_loopg [13] N (fun gn v13 wj => ∃ (i : Nat) (D : DataW Value) (mv : List UInt8 → Value), Hid (gn + i = N ∧ i ≤ N) ∧ v13 = .int .i64 i ∧ w.grows wj ∧ wj.row (w.heap.size + 1) = some (.cells #[.map (some w.heap.size), .int .i64 0] 60) ∧
    Hid (wj.ownsMap Try.prog 9 heldR w.heap.size i D ∧ MapV D mv ∧ RowsN wj (w.heap.size + 2) 37 mv (ofN l i) ∧ HasM D (ofN l i)))
  case atStart => exact ⟨0, _, _, Lib.hid ⟨rfl, Nat.zero_le _⟩, by go_num, (by repeat (with_reducible first | assumption | exact grA | apply grB | apply grC | apply grD | refine grE ?_ (by omega) _ | refine grF ?_ (by omega) _ _)), by simp [go_sem], Lib.hid ⟨hmap0, MapV.nil, by rw [show ofN l 0 = fun _ => [] from funext fun s => ofN_zero l s]; exact ⟨RowsN.nil _ _ _, HasM.nil⟩⟩⟩
  case round =>
    clear hmap0
    obtain ⟨i, D, mv, HK, rfl, hg, hx, HM⟩ := hrel
    obtain ⟨k1, k2⟩ := HK.out
    have zx := row_sz' hx
    by_cases hlt : i < N
    · have n1 : (i : Int) < (N : Int) := by omega
      have hNl := EN.out
      obtain ⟨a', cap', e', _, _, h3⟩ := HS.out
      injection e' with e1' e2' e3'
      subst e1'
      rcases h3 with h0 | ⟨g, off, rfl, _, h4⟩
      · rw [h0] at hNl; simp at hNl; omega
      have hgt := List.getElem?_eq_getElem (by omega : i < l.length)
      obtain ⟨cs, _, el, ec, wf⟩ := h4 i _ hgt
      generalize l[i] = x at *
      subst ec
      replace el := el.grows hg
      have e1 : segOk (off + i * 5) 5 (wr.row g) = true := el.1
      have e2 : segV (off + i * 5) 5 (wr.row g) = x.v := el.2
      have zg := lt_sz el.lt
      have hM := fun W => may_any x.p x.q W wf.2.2.1.1 wf.2.2.1.2 wf.2.2.2.1.1 wf.2.2.2.1.2
      have WF := Lib.hid wf
      have HGT := Lib.hid hgt
      clear el h4 hgt hNl e2' e3' wf
      cases hsu : sureB x.p x.q with
      | false =>
        have hskip := ofN_skip HGT.out hsu
        have HSK := Lib.hid hskip
        cases hmy : mayB x.p x.q with
        | false =>
          rw [hmy] at hM
          have HMAY := Lib.hid hM
          clear hM hmy hsu hskip
          obtain ⟨nm, o, p, q, d⟩ := x
          go_wp2_with (first | (go_at_call 25; (with_reducible refine (HMAY.out _).mono ?_); rintro e w1 ⟨rfl, x1, rfl⟩))
          go_roundg (N - (i + 1))
          case rel => exact ⟨i + 1, D, mv, Lib.hid ⟨by omega, by omega⟩, by go_num, (by repeat (with_reducible first | assumption | exact grA | apply grB | apply grC | apply grD | refine grE ?_ (by omega) _ | refine grF ?_ (by omega) _ _)), by simp [go_sem, hx, zx], Lib.hid (by rw [HSK.out]; exact ⟨(HM.out.1.grows (by repeat (with_reducible first | assumption | exact grA | apply grB | apply grC | apply grD | refine grE ?_ (by omega) _ | refine grF ?_ (by omega) _ _))).mono (by omega), HM.out.2.1, HM.out.2.2.1.grows (by repeat (with_reducible first | assumption | exact grA | apply grB | apply grC | apply grD | refine grE ?_ (by omega) _ | refine grF ?_ (by omega) _ _)), HM.out.2.2.2⟩)⟩
          case measure => omega
        | true =>
          have hq2 : ¬ 0 < x.q := by
            unfold mayB at hmy
            rw [hsu] at hmy
            simp at hmy
            omega
          rw [hmy] at hM
          have HMAY := Lib.hid hM
          clear hM hmy hsu hskip
          obtain ⟨nm, o, p, q, d⟩ := x
          simp only at hq2
          go_wp2_with (first | (go_at_call 25; (with_reducible refine (HMAY.out _).mono ?_); rintro e w1 ⟨rfl, x1, rfl⟩))
          go_roundg (N - (i + 1))
          case rel => exact ⟨i + 1, D, mv, Lib.hid ⟨by omega, by omega⟩, by go_num, (by repeat (with_reducible first | assumption | exact grA | apply grB | apply grC | apply grD | refine grE ?_ (by omega) _ | refine grF ?_ (by omega) _ _)), by simp [go_sem, hx, zx], Lib.hid (by rw [HSK.out]; exact ⟨(HM.out.1.grows (by repeat (with_reducible first | assumption | exact grA | apply grB | apply grC | apply grD | refine grE ?_ (by omega) _ | refine grF ?_ (by omega) _ _))).mono (by omega), HM.out.2.1, HM.out.2.2.1.grows (by repeat (with_reducible first | assumption | exact grA | apply grB | apply grC | apply grD | refine grE ?_ (by omega) _ | refine grF ?_ (by omega) _ _)), HM.out.2.2.2⟩)⟩
          case measure => omega
      | true =>
        have hmy : mayB x.p x.q = true := by unfold mayB; rw [hsu]; simp
        have hq1 := (sureB_yes hsu).1
        rw [hmy] at hM
        have HMAY := Lib.hid hM
        have hq2 : 0 < x.q := by omega
        have HSU := Lib.hid hsu
        clear hM hmy hsu hq1
        obtain ⟨nm, o, p, q, d⟩ := x
        simp only at hq2
        go_upto_region 6 with (first | (go_at_call 25; (with_reducible refine (HMAY.out _).mono ?_); rintro e w1 ⟨rfl, x1, rfl⟩))
        have hlk : ∀ W, wr.grows W → (Instr.lookup 51 (.map (some w.heap.size)) (.string nm) false).run Try.prog W = .ok (mv nm.data.toList) W := fun W hW => newLook (HM.out.1.grows hW) HM.out.2.1 WF.out.1
        refine wp_region_seq_tail (S := NewS (w.heap.size + 1) (.cells #[.map (some w.heap.size), .int .i64 0] 60) wr.heap.size (.cells #[.string nm, .int .i64 o, .int .i64 p, .int .i64 q, .int .i64 d] 37) w.heap.size nm (mv nm.data.toList)) 16 (by kernel_rfl) (by kernel_rfl) ?hs ?_
        case hs =>
          show NewS _ _ _ _ _ _ _ (World.drew _)
          exact ⟨by simp [go_sem, hx, zx], by simp [go_sem], hlk _ (by repeat (with_reducible first | assumption | exact grA | apply grB | apply grC | apply grD | refine grE ?_ (by omega) _ | refine grF ?_ (by omega) _ _))⟩
        show wpSeqL _ _ _ _ _ _ (World.drew _)
        simp only [List.take_succ_cons, List.take_zero, List.drop_succ_cons, List.drop_zero]
        repeat (any_goals (first | (refine wpSeqL_free rfl ?_; first | (go_big_quiet_skip; refine wpQuiet_nil ?_) | (go_big_quiet_step (fail); refine wpQuiet_nil ?_) | (refine wpQuiet_step (fun K hK => ?_); go_simp; split <;> (refine hK _ ?_; clear hK K; refine wpQuiet_nil ?_))) | (refine wpSeqL_link rfl (fun K hK => ?_); go_simp; first | first | (refine hK _ _ (by show World.grows _ _; repeat (first | assumption | exact grA | apply grB | apply grC | apply grD)) ?_; clear hK K) | ((fail); refine ⟨_, rfl, hK _ _ (by show World.grows _ _; repeat (first | assumption | exact grA | apply grB | apply grC | apply grD)) ?_⟩; clear hK K) | (split <;> (first | (refine hK _ _ (by show World.grows _ _; repeat (first | assumption | exact grA | apply grB | apply grC | apply grD)) ?_; clear hK K) | ((fail); refine ⟨_, rfl, hK _ _ (by show World.grows _ _; repeat (first | assumption | exact grA | apply grB | apply grC | apply grD)) ?_⟩; clear hK K))))))
        (refine wpSeqL_free rfl ?_; refine wpQuiet_step (fun K hK => ?_); rw [if_pos (by simp [Region.wanted])]; refine ⟨(.pointer (some ⟨w.heap.size + 1, 0, none⟩)), fun w' hw' => ?_, ?_⟩; (focus (obtain ⟨r1, r2, r3⟩ := hw'; have s1 := row_sz' r1; have s2 := row_sz' r2; simp [Oper.quietAt, Oper.quietUpon, go_sem, r1, r2, r3, s1, s2])); go_simp; refine hK _ ?_; clear hK K; refine wpQuiet_nil ?_)
        (refine wpSeqL_free rfl ?_; refine wpQuiet_step (fun K hK => ?_); rw [if_pos (by simp [Region.wanted])]; refine ⟨(.pointer (some ⟨w.heap.size + 1, 0, none⟩)), fun w' hw' => ?_, ?_⟩; (focus (obtain ⟨r1, r2, r3⟩ := hw'; have s1 := row_sz' r1; have s2 := row_sz' r2; simp [Oper.quietAt, Oper.quietUpon, go_sem, r1, r2, r3, s1, s2])); go_simp; refine hK _ ?_; clear hK K; refine wpQuiet_nil ?_)
        (refine wpSeqL_free rfl ?_; refine wpQuiet_step (fun K hK => ?_); rw [if_pos (by simp [Region.wanted])]; refine ⟨.map (some w.heap.size), fun w' hw' => ?_, ?_⟩; (focus (obtain ⟨r1, r2, r3⟩ := hw'; have s1 := row_sz' r1; have s2 := row_sz' r2; simp [Oper.quietAt, Oper.quietUpon, go_sem, r1, r2, r3, s1, s2])); go_simp; refine hK _ ?_; clear hK K; refine wpQuiet_nil ?_)
        (refine wpSeqL_free rfl ?_; refine wpQuiet_step (fun K hK => ?_); rw [if_pos (by simp [Region.wanted])]; refine ⟨.pointer (some ⟨wr.heap.size, 0, none⟩), fun w' hw' => ?_, ?_⟩; (focus (obtain ⟨r1, r2, r3⟩ := hw'; have s1 := row_sz' r1; have s2 := row_sz' r2; simp [Oper.quietAt, Oper.quietUpon, go_sem, r1, r2, r3, s1, s2])); go_simp; refine hK _ ?_; clear hK K; refine wpQuiet_nil ?_)
        (refine wpSeqL_free rfl ?_; refine wpQuiet_step (fun K hK => ?_); rw [if_pos (by simp [Region.wanted])]; refine ⟨.string nm, fun w' hw' => ?_, ?_⟩; (focus (obtain ⟨r1, r2, r3⟩ := hw'; have s1 := row_sz' r1; have s2 := row_sz' r2; simp [Oper.quietAt, Oper.quietUpon, go_sem, r1, r2, r3, s1, s2])); go_simp; refine hK _ ?_; clear hK K; refine wpQuiet_nil ?_)
        repeat (any_goals (first | (refine wpSeqL_free rfl ?_; first | (go_big_quiet_skip; refine wpQuiet_nil ?_) | (go_big_quiet_step (fail); refine wpQuiet_nil ?_) | (refine wpQuiet_step (fun K hK => ?_); go_simp; split <;> (refine hK _ ?_; clear hK K; refine wpQuiet_nil ?_))) | (refine wpSeqL_link rfl (fun K hK => ?_); go_simp; first | first | (refine hK _ _ (by show World.grows _ _; repeat (first | assumption | exact grA | apply grB | apply grC | apply grD)) ?_; clear hK K) | ((fail); refine ⟨_, rfl, hK _ _ (by show World.grows _ _; repeat (first | assumption | exact grA | apply grB | apply grC | apply grD)) ?_⟩; clear hK K) | (split <;> (first | (refine hK _ _ (by show World.grows _ _; repeat (first | assumption | exact grA | apply grB | apply grC | apply grD)) ?_; clear hK K) | ((fail); refine ⟨_, rfl, hK _ _ (by show World.grows _ _; repeat (first | assumption | exact grA | apply grB | apply grC | apply grD)) ?_⟩; clear hK K))))))
        (refine wpSeqL_free rfl ?_; refine wpQuiet_step (fun K hK => ?_); rw [if_pos (by simp [Region.wanted])]; refine ⟨(.pointer (some ⟨w.heap.size + 1, 0, none⟩)), fun w' hw' => ?_, ?_⟩; (focus (obtain ⟨r1, r2, r3⟩ := hw'; have s1 := row_sz' r1; have s2 := row_sz' r2; simp [Oper.quietAt, Oper.quietUpon, go_sem, r1, r2, r3, s1, s2])); go_simp; refine hK _ ?_; clear hK K; refine wpQuiet_nil ?_)
        (refine wpSeqL_free rfl ?_; refine wpQuiet_step (fun K hK => ?_); rw [if_pos (by simp [Region.wanted])]; refine ⟨(.pointer (some ⟨w.heap.size + 1, 0, none⟩)), fun w' hw' => ?_, ?_⟩; (focus (obtain ⟨r1, r2, r3⟩ := hw'; have s1 := row_sz' r1; have s2 := row_sz' r2; simp [Oper.quietAt, Oper.quietUpon, go_sem, r1, r2, r3, s1, s2])); go_simp; refine hK _ ?_; clear hK K; refine wpQuiet_nil ?_)
        (refine wpSeqL_free rfl ?_; refine wpQuiet_step (fun K hK => ?_); rw [if_pos (by simp [Region.wanted])]; refine ⟨.map (some w.heap.size), fun w' hw' => ?_, ?_⟩; (focus (obtain ⟨r1, r2, r3⟩ := hw'; have s1 := row_sz' r1; have s2 := row_sz' r2; simp [Oper.quietAt, Oper.quietUpon, go_sem, r1, r2, r3, s1, s2])); go_simp; refine hK _ ?_; clear hK K; refine wpQuiet_nil ?_)
        (refine wpSeqL_free rfl ?_; refine wpQuiet_step (fun K hK => ?_); rw [if_pos (by simp [Region.wanted])]; refine ⟨.pointer (some ⟨wr.heap.size, 0, none⟩), fun w' hw' => ?_, ?_⟩; (focus (obtain ⟨r1, r2, r3⟩ := hw'; have s1 := row_sz' r1; have s2 := row_sz' r2; simp [Oper.quietAt, Oper.quietUpon, go_sem, r1, r2, r3, s1, s2])); go_simp; refine hK _ ?_; clear hK K; refine wpQuiet_nil ?_)
        (refine wpSeqL_free rfl ?_; refine wpQuiet_step (fun K hK => ?_); rw [if_pos (by simp [Region.wanted])]; refine ⟨.string nm, fun w' hw' => ?_, ?_⟩; (focus (obtain ⟨r1, r2, r3⟩ := hw'; have s1 := row_sz' r1; have s2 := row_sz' r2; simp [Oper.quietAt, Oper.quietUpon, go_sem, r1, r2, r3, s1, s2])); go_simp; refine hK _ ?_; clear hK K; refine wpQuiet_nil ?_)
        (refine wpSeqL_free rfl ?_; refine wpQuiet_step (fun K hK => ?_); rw [if_pos (by simp [Region.wanted])]; refine ⟨mv nm.data.toList, fun w' hw' => ?_, ?_⟩; (focus (obtain ⟨r1, r2, r3⟩ := hw'; have s1 := row_sz' r1; have s2 := row_sz' r2; simp [Oper.quietAt, Oper.quietUpon, go_sem, r1, r2, r3, s1, s2])); go_simp; refine hK _ ?_; clear hK K; refine wpQuiet_nil ?_)
        (refine wpSeqL_free rfl ?_; refine wpQuiet_step (fun K hK => ?_); rw [if_pos (by simp [Region.wanted])]; refine ⟨.agg #[.string nm, .int .i64 o, .int .i64 p, .int .i64 q, .int .i64 d], fun w' hw' => ?_, ?_⟩; (focus (obtain ⟨r1, r2, r3⟩ := hw'; have s1 := row_sz' r1; have s2 := row_sz' r2; simp [Oper.quietAt, Oper.quietUpon, go_sem, r1, r2, r3, s1, s2])); go_simp; refine hK _ ?_; clear hK K; refine wpQuiet_nil ?_)
        (refine wpSeqL_link rfl (fun K hK => ?_); go_simp; refine hK _ _ ⟨by simp [go_sem, hx, zx], by simp [go_sem], hlk _ (by repeat (with_reducible first | assumption | exact grA | apply grB | apply grC | apply grD | refine grE ?_ (by omega) _ | refine grF ?_ (by omega) _ _))⟩ ?_; clear hK K)
        have q9 := hg.below.size
        have q8 := zx.1
        have hrow := HM.out.2.2.1.own nm.data.toList
        have hlt9 := fun k hk => (hrow.lt k hk)
        have HLT := Lib.hid hlt9
        have hcnt : (ofN l i nm.data.toList).length ≤ i := by unfold ofN; exact Nat.le_trans (List.length_filter_le _ _) (by simp; omega)
        generalize hv0 : mv nm.data.toList = v0 at *
        have HROW := Lib.hid hrow; have HV0 := Lib.hid hv0
        clear hrow hlt9 hv0
        refine wpSeqL_own w (w.heap.size + 2) rfl rfl (.tmp 38) (.tmp 40) 22 rfl 37 (.agg #[.string ByteArray.empty, .int .i64 0, .int .i64 0, .int .i64 0, .int .i64 0]) 5 48 Try.underlying22 (by kernel_rfl) rfl (by omega) (by omega) v0 _ _ rfl (HROW.out.grows (by repeat (with_reducible first | assumption | exact grA | apply grB | apply grC | apply grD | refine grE ?_ (by omega) _ | refine grF ?_ (by omega) _ _))) _ 1 _ [.string nm, .int .i64 o, .int .i64 p, .int .i64 q, .int .i64 d] rfl rfl (cells_of_row (e := 37) (fr := (0, 0)) (by simp [go_sem])) (by simp [Value.oneCell']) (by omega) (by repeat (with_reducible first | assumption | exact grA | apply grB | apply grC | apply grD | refine grE ?_ (by omega) _ | refine grF ?_ (by omega) _ _)) (by omega) (by simp; omega) ?_
        intro v' w' hg' HO' HR' HG' HA'
        have hne : some w.heap.size ≠ v0.ownBlock := fun e => by have := (HLT.out _ e.symm).1; omega
        have hmap' := (HM.out.1.grows (W := (((wr.alloc (.cells #[.string nm, .int .i64 o, .int .i64 p, .int .i64 q, .int .i64 d] 37)).plus x1).alloc (.cells #[.string nm, .int .i64 o, .int .i64 p, .int .i64 q, .int .i64 d] 37)).drew) (by repeat (with_reducible first | assumption | exact grA | apply grB | apply grC | apply grD | refine grE ?_ (by omega) _ | refine grF ?_ (by omega) _ _))).kept HG'.out hne
        have hix' : w'.row (w.heap.size + 1) = some (.cells #[.map (some w.heap.size), .int .i64 0] 60) := (HR'.out _ (by omega)).trans (by simp [go_sem, hx, zx])
        have HMP := Lib.hid hmap'
        clear hmap'
        refine ⟨⟨hix', World.row_grown HG'.out (by simp [go_sem]) (fun e => by have := (HLT.out _ e.symm).2; omega), by have := newLook HMP.out HM.out.2.1 WF.out.1; rw [HV0.out] at this; exact this⟩, ?_⟩
        go_simp
        refine wpSeqL_end ?_
        refine wpList_mapUpdate_own _ rfl (.tmp 29) (.tmp 31) (.tmp 41) 51 rfl 9 22 (string_keyed Try.underlying9) Try.underlying51 heldR w.heap.size i D rfl HMP.out (by simp only [maxLen]; omega) _ _ _ rfl rfl (WideMaps.keyOf_string_mk Try.underlying9 WF.out.1) (.held v') [] rfl ?_
        intro w2 hown hgrow
        have hg2 : w.grows w2 := World.grows.grown hg' hgrow (fun k h => by cases h; omega)
        have hx2 := World.row_grown hgrow hix' (by simp)
        have z2 := row_sz' hx2
        have HOWN := Lib.hid hown; have HGR := Lib.hid hgrow
        clear hown hgrow
        go_wp2_with fail
        go_roundg (N - (i + 1))
        case rel => exact ⟨i + 1, _, _, Lib.hid ⟨by omega, by omega⟩, by go_num, hg2, hx2, Lib.hid ⟨HOWN.out, HM.out.2.1.put nm.data.toList v', by
          have hrows := HM.out.2.2.1
          refine ⟨?_, HM.out.2.2.2.put HM.out.2.1.1 HGT.out HSU.out⟩
          refine RowsN.put (wr := wr) (w' := w') (sz := (((wr.alloc (.cells #[.string nm, .int .i64 o, .int .i64 p, .int .i64 q, .int .i64 d] 37)).plus x1).alloc (.cells #[.string nm, .int .i64 o, .int .i64 p, .int .i64 q, .int .i64 d] 37)).drew.heap.size) hrows HGT.out HSU.out (by simp; omega) HO'.out (fun g hgl hgb => ?_) (fun g hgB hgl => ?_) (by have := HG'.out.size; simp at this; omega) (by rw [HV0.out]; exact HA'.out)
          · rw [HV0.out] at hgb
            exact (World.row_grow HG'.out (by simp; omega) (fun e => hgb e.symm)).trans (World.grows.row_eq (by repeat (with_reducible first | assumption | exact grA | apply grB | apply grC | apply grD | refine grE ?_ (by omega) _ | refine grF ?_ (by omega) _ _)) hgl)
          · exact World.row_grow HGR.out hgl (fun e => by cases e; omega)⟩⟩
        case measure => omega
    · obtain rfl : i = N := by omega
      have n1 : ¬ (i : Int) < (i : Int) := by omega
      have q9 := hg.below.size
      go_wp2_with (first | (at_range; refine wpList_range_own _ rfl _ 51 rfl 9 22 (string_keyed Try.underlying9) Try.underlying51 heldR w.heap.size i D rfl HM.out.1 ?_; intro w3 hrg3 hgr3 hsz3))
      have hgw3 : w.grows w3 := World.grows.grown hg hgr3 (fun _ h => by cases h)
      have hwr3 : wr.grows w3 := World.grows.grown World.grows.refl hgr3 (fun _ h => by cases h)
      have hx3 : w3.row (w.heap.size + 1) = some (.cells #[.map (some w.heap.size), .int .i64 0] 60) := (hwr3.row_eq zx.1).trans hx
      have HT0 := Lib.hid (TurnN.start HM.out.2.2.1 HM.out.2.1 HM.out.2.2.2)
      have HR3 := Lib.hid (HM.out.2.2.1.grows hwr3)
      have HMV := Lib.hid HM.out.2.1
      have HRG := Lib.hid hrg3
      have hrB : w.heap.size + 2 ≤ wr.heap.size := by have := zx.1; omega
      clear HM hgr3 hsz3 hrg3 hx zx hwr3
      generalize wr.heap.size = r at *
      generalize hmm : ofN l i = mm at *
      have HMM := Lib.hid hmm
      clear hmm
      go_loopg [7] (Maps.size D) (fun gn v7 wj => ∃ (left : Lit → Bool) (pp : List UInt8 → List Ln), w.grows wj ∧ wj.row (w.heap.size + 1) = some (.cells #[.map (some w.heap.size), .int .i64 0] 60) ∧
        Hid (wj.ranges Try.prog 9 heldR w.heap.size r i D left gn ∧ RowsN wj (w.heap.size + 2) 37 mv pp ∧ TurnN mm pp left))
      case atStart => exact ⟨_, _, hgw3, hx3, Lib.hid ⟨HRG.out, HR3.out, HT0.out⟩⟩
      case round =>
        clear hgw3 hx3 HRG HR3 HT0 hg
        obtain ⟨left, pp, hg, hx, HJ⟩ := hrel
        go_wp2_with (first | (at_next; refine newNext (Y := fun s g n cap => mv s = .slice (some ⟨g, 0, none⟩) n cap ∧ n = (pp s).length ∧ w.heap.size + 2 ≤ g ∧ n ≤ cap ∧ cap ≤ 9223372036854775807 ∧ ∃ RR0, wr.row g = some (.cells ((pp s).flatMap Ln.cs ++ RR0).toArray 37)) rfl (.tmp 47) rfl w.heap.size r i D mv left gk rfl HJ.out.1 HMV.out ?_ ?_ ?_))
        · intro s hs
          rcases HJ.out.2.2 s with ⟨_, e1, e2⟩ | ⟨e1, _⟩
          · obtain ⟨g, cp, RR0, a1, a2, a3, a4, a5⟩ := HJ.out.2.1.row (s := s) (by rw [e1]; exact e2)
            exact ⟨g, _, cp, a1, a1, rfl, a2, a3, a4, RR0, a5⟩
          · rw [hs] at e1; cases e1
        · intro hc0 HL0
          go_wp2_with fail
          go_ret
          have hfin : ∀ s, Srt (ofN l l.length s) (pp s) := fun s => by
            rcases HJ.out.2.2 s with ⟨e1, _⟩ | ⟨_, e1⟩
            · rw [HL0.out] at e1; cases e1
            · rw [EN.out, HMM.out]; exact e1
          exact ⟨rfl, hg, w.heap.size, i, D, mv, pp, by omega, by omega, by omega, hx, HJ.out.1.owns, HMV.out, HJ.out.2.1, hfin⟩
        · intro s g m cp w' cnt' HY HLT HRG hlt HGR hen
          obtain ⟨hmv, hm, hgB, hmc, hcp, RR0, hrow⟩ := HY.out
          obtain ⟨g1, g2⟩ := ranges_not HJ.out.1 hrow
          obtain ⟨x1, x2⟩ := ranges_not HJ.out.1 hx
          have hrow' : w'.row g = some (.cells ((pp s).flatMap Ln.cs ++ RR0).toArray 37) := World.row_grown HGR.out hrow (fun e => by cases e; exact g1 rfl)
          have hx' : w'.row (w.heap.size + 1) = some (.cells #[.map (some w.heap.size), .int .i64 0] 60) := World.row_grown HGR.out hx (fun e => by cases e; exact x1 rfl)
          have hgw' : w.grows w' := World.grows.grown hg HGR.out (fun k h => by cases h; omega)
          have hrows' : RowsN w' (w.heap.size + 2) 37 mv pp := HJ.out.2.1.kept fun k o hk => World.row_grow HGR.out (row_sz' hk).1 (fun e => by cases e; exact (ranges_not HJ.out.1 hk).1 rfl)
          have hpm : pp s = mm s := by
            rcases HJ.out.2.2 s with ⟨_, e1, _⟩ | ⟨e1, _⟩
            · exact e1
            · rw [HLT.out] at e1; cases e1
          have hall : ∀ x ∈ mm s, sureB x.p x.q = true ∧ x.Wf := fun x hx => by
            rw [← HMM.out] at hx
            unfold ofN at hx
            obtain ⟨h1, h2⟩ := List.mem_filter.1 hx
            unfold okN at h2
            rw [Bool.and_eq_true] at h2
            refine ⟨h2.1, ?_⟩
            obtain ⟨_, _, _, _, _, h3⟩ := HS.out
            rcases h3 with h0 | ⟨_, _, _, _, h4⟩
            · rw [h0] at h1; simp at h1
            · obtain ⟨q, hq, rfl⟩ := List.mem_iff_getElem.1 (List.mem_of_mem_take h1)
              obtain ⟨_, _, _, _, wf⟩ := h4 q _ (List.getElem?_eq_getElem hq)
              exact wf
          have hlen : (mm s).length ≤ 1048576 := by
            rw [← HMM.out]; unfold ofN
            exact Nat.le_trans (List.length_filter_le _ _) (by simp; omega)
          rw [hpm] at hm hrow'
          subst hm
          have HMVS := Lib.hid hmv
          clear hmv
          have hrow2 := hrow'
          rw [← els_self] at hrow'
          have s1 := sortLines_any g cp (mm s) RR0 (fun x hx => (hall x hx).1) (fun x hx => (hall x hx).2) w' hrow' hlen hmc hcp
          have S1 := Lib.hid s1
          have HROW := Lib.hid hrow2; have HROWS := Lib.hid hrows'; have HPM := Lib.hid hpm
          clear s1 hrow' hrow2 hrows' hpm hall hx hg hrow
          go_wp2_with (go_at_call 26; (with_reducible refine (S1.out).mono ?_); rintro e w4 ⟨rfl, f4, hx4, HO4, hR4⟩)
          go_roundg cnt'
          case rel => exact ⟨_, fun t => if t = s then (List.range (mm s).length).map (fun k => atL (mm s) (f4 k)) else pp t, HO4.gr w (by omega) hgw', (HO4.row _ (by omega) (row_sz' hx').1).trans hx', Lib.hid ⟨HRG.out.kept (HO4.grownBy (w0 := w) (by omega) hgw') (fun e => by cases e; omega) (fun e => by cases e; exact g1 rfl), by
            have hx5 := hx4
            rw [els_lines] at hx5
            refine HROWS.out.turn (g := g) (cap := cp) (RR0 := RR0) (by rw [HPM.out]; exact HMVS.out) (by rw [HPM.out]; exact HROW.out) hx5 (by rw [HPM.out]; simp) HO4.row, HJ.out.2.2.step ⟨f4, hR4, rfl⟩⟩⟩
          case measure => omega
end Go.Proofs.Ytjfccilmlmimaaa

/- WALK over norm: parts copied into memory of their own. No condition but that the parts stand in memory and are not too many. -/
import Derived.Test.YthmicnjigfcljaaMp
import Derived.Test.YthmicnjigfcljaaMo
import Derived.Test.YthmicnjigfcljaaMa
set_option linter.unusedSimpArgs false
set_option linter.unusedVariables false
namespace Go
open Go.RowKit
/-- what a call that copies parts is to give -/
def CopP (w : World) (T : Nat → Prop) (ps : List (Bool × List Fm)) (e : Ending) (w' : World) : Prop :=
  ∃ (a : Option Addr) (c : Nat), e = .returned (.slice a ps.length c) ∧ w.grows w' ∧ SlAt w' T 2 (PartR (FormOk w' T) w' T) (.slice a ps.length c) ps
/-- two blocks that stand as they are -/
def Rows2 (g1 : Nat) (o1 : Obj) (g2 : Nat) (o2 : Obj) (w : World) : Prop := w.row g1 = some o1 ∧ w.row g2 = some o2
theorem own_block_kept2 {w W : World} {B : Nat} {e : TypeId} {n : Nat} {k : Nat} {v : Value} {xs : List Value} (h : w.ownsRow B e n v k xs) (hk : ∀ g, v.ownBlock = some g → W.row g = w.row g) : W.ownsRow B e n v k xs := by
  refine ⟨h.1, ?_⟩
  rcases h.2 with hn | ⟨g, cap, cur, rfl, hb, hgg, rest⟩
  · exact .inl hn
  · exact .inr ⟨g, cap, cur, rfl, hb, (hk g rfl).trans hgg, rest⟩
theorem OwnAt.parts_keep {W w' : World} {B : Nat} {e : TypeId} {T T' : Nat → Prop} {v : Value} {l : List (Bool × List Fm)} (h : OwnAt W B e 2 (PartR (FormOk W T) W T) v l) (hv : ∀ g, v.ownBlock = some g → w'.row g = W.row g)
    (hT : ∀ g, T g → g < W.heap.size → w'.row g = W.row g ∧ T' g) : OwnAt w' B e 2 (PartR (FormOk w' T') w' T') v l := by
  obtain ⟨css, h1, h2, h3⟩ := h
  refine ⟨css, h1, fun i x cs hx hc => ⟨(h2 i x cs hx hc).1, ?_⟩, own_block_kept2 h3 hv⟩
  obtain ⟨v', e, h⟩ := (h2 i x cs hx hc).2
  exact ⟨v', e, h.keep hT fun f _ cs hf => hf.keep hT⟩
theorem OwnAt.forms_keep2 {W w' : World} {B : Nat} {e : TypeId} {T T' : Nat → Prop} {v : Value} {l : List Fm} (h : OwnAt W B e 15 (FormOk W T) v l) (hv : ∀ g, v.ownBlock = some g → w'.row g = W.row g)
    (hT : ∀ g, T g → g < W.heap.size → w'.row g = W.row g ∧ T' g) : OwnAt w' B e 15 (FormOk w' T') v l := by
  obtain ⟨css, h1, h2, h3⟩ := h
  exact ⟨css, h1, fun i x cs hx hc => ⟨(h2 i x cs hx hc).1, (h2 i x cs hx hc).2.keep hT⟩, own_block_kept2 h3 hv⟩
theorem parts_append {W w' : World} {B : Nat} {e : TypeId} {S : Nat → Prop} {v v' : Value} {l : List (Bool × List Fm)} {f : Bool × List Fm} {cs : List Value} {css : List (List Value)}
    (h1 : css.length = l.length) (h2 : ∀ (i : Nat) (x : Bool × List Fm) (cs : List Value), l[i]? = some x → css[i]? = some cs → cs.length = 2 ∧ PartR (FormOk W (exS S v)) W (exS S v) x cs) (hf : PartR (FormOk W (exS S v)) W (exS S v) f cs)
    (ho : w'.ownsRow B e 2 v' (l.length + 1) (css.flatten ++ cs)) (hg : W.grownBy w' v.ownBlock) (hat : v'.ownBlock = v.ownBlock ∨ v'.ownBlock = some W.heap.size) : OwnAt w' B e 2 (PartR (FormOk w' (exS S v')) w' (exS S v')) v' (l ++ [f]) := by
  have hk : ∀ g, exS S v g → g < W.heap.size → w'.row g = W.row g ∧ exS S v' g := fun g hS hlt => ⟨hg.block g hlt (fun e => hS.2 e.symm), hS.1, fun he => by
    rcases hat with h | h
    · exact hS.2 (h ▸ he)
    · rw [h] at he; cases he; omega⟩
  refine OwnAt.append (R := PartR (FormOk W (exS S v)) W (exS S v)) (css' := [cs]) h1 h2 rfl (fun i x c hx hc => ?_) (fun x cs ⟨v2, e, h⟩ => ⟨v2, e, h.keep hk fun f _ cs hf => hf.keep hk⟩) (by simpa using ho)
  match i with
  | 0 =>
    obtain rfl : f = x := by simpa using hx
    obtain rfl : cs = c := by simpa using hc
    obtain ⟨v2, e, h⟩ := hf
    exact ⟨by rw [e]; rfl, v2, e, h⟩
  | i + 1 => simp at hx
theorem wpSeqL_app {P : Program} {S : World → Prop} {F : Act → World → Prop} {w : World} {ops : Array Oper} {rest : List Oper} {o : Oper} {a : Act} (w0 : World) (B : Nat) (hgd : o.guard = none) (hfr : freeOp o = false) (s x : Operand) (t : TypeId)
    (ho : o.op = .call { callee := .builtin .append, args := #[s, x], argTypes := #[t, t] })
    (e : TypeId) (z : Value) (size bytes : Nat) (ht : P.underlying t = some (.slice e)) (hi : (P.info? e).map (fun i => (i.zero, i.size, i.bytes)) = some (some z, size, bytes))
    (hzs : z.cells.size = size) (hsz : 0 < size) (hby : bytes ≤ 1048576)
    (v : Value) (n : Nat) (xs : List Value) (hs : a.eval s = v) (hown : w.ownsRow B e size v n xs)
    (ad : Addr) (m c : Nat) (news : List Value) (hx : a.eval x = .slice (some ad) m c) (hl : news.length = m * size) (hnews : ∀ j u, news[j]? = some u → w.cell? (ad.add j) = some u) (h1 : ∀ u ∈ news, u.oneCell' = true)
    (hn : n + m ≤ 67108864) (hg0 : w0.grows w) (hB : w0.heap.size ≤ B) (hB2 : B ≤ w.heap.size)
    (h : ∀ v' w', w0.grows w' → Hid (w'.ownsRow B e size v' (n + m) (xs ++ news)) → Hid (∀ k, k < B → w'.row k = w.row k) → Hid (w.grownBy w' v.ownBlock) → Hid (v'.ownBlock = v.ownBlock ∨ v'.ownBlock = some w.heap.size) → S w' ∧ wpSeqL P ops S F rest (a.put o.dst v') w') :
    wpSeqL P ops S F (o :: rest) a w := by
  obtain ⟨i, hi0, hzz⟩ := Option.map_eq_some_iff.1 hi
  simp only [Prod.mk.injEq] at hzz
  obtain ⟨hz, hsz0, hby0⟩ := hzz
  refine wpSeqL_link hfr fun K hK => ?_
  rw [if_pos (by simp [Region.wanted, hgd])]
  obtain ⟨v', w', hr, h2, h3, h4, h5⟩ := run_append_own_at (P := P) w B t o.type e i z size bytes ht hi0 hz hsz0 hby0 hzs hsz v n xs hown ad m c news hl hnews h1 (by simp only [maxLen]; omega)
    (Nat.le_trans (Nat.mul_le_mul hn hby) (by decide)) hB2
  unfold Oper.chain execOp
  simp only [ho, resolve, invoke, builtin, Sem.run_bind, Sem.run_pure, Result.andThen_ok, List.map_toArray, List.map_cons, List.map_nil, hs, hx, hr]
  have hlt := hown.lt
  obtain ⟨k1, k2⟩ := h v' w' (hg0.grown h3 (fun k hk => Nat.le_trans hB (hlt k hk).1)) (Lib.hid h2) (Lib.hid fun k hk => by
    by_cases hks : k < w.heap.size
    · unfold World.row
      rw [h3.block k hks (fun e => by have := (hlt k e.symm).1; omega)]
    · omega) (Lib.hid h3) (Lib.hid h5)
  exact hK _ _ k1 k2
end Go
namespace Go.Proofs.Ythmicnjigfcljaa
open Go.RowKit

set_option maxRecDepth 100000 in
@[go_sem high] theorem build_form (w : World) (us : List (Int × Int)) (h : us.length = 7) (a : Option Addr) (n c : Nat) : (buildR 30 [(0, .agg (unitC us).toArray), (1, .slice a n c)]).run Try.prog w = .ok (.agg (formC us (.slice a n c)).toArray) w := by
  match us, h with
  | [p0, p1, p2, p3, p4, p5, p6], _ =>
    show (buildR 30 [(0, .agg #[.int .i64 p0.1, .int .i64 p0.2, .int .i64 p1.1, .int .i64 p1.2, .int .i64 p2.1, .int .i64 p2.2, .int .i64 p3.1, .int .i64 p3.2, .int .i64 p4.1, .int .i64 p4.2, .int .i64 p5.1, .int .i64 p5.2, .int .i64 p6.1, .int .i64 p6.2]), (1, .slice a n c)]).run Try.prog w = _
    simp [go_sem]
    rfl

def CopF (m : Nat) : Prop := ∀ (us : List (Int × Int)) (ps : List (Bool × List Fm)) (v : Value) (w : World) (S : Nat → Prop), FormAt w S m (.mk us ps) (formC us v) → szP ps ≤ 4194304 →
    Calls Try.prog 92 #[v] w (CopP w (fun g => w.heap.size ≤ g) ps)

set_option maxRecDepth 100000 in
set_option maxHeartbeats 8000000 in
theorem cop_step (m : Nat) (IH0 : CopF m) (ps : List (Bool × List Fm)) (a0 : Option Addr) (c0 : Nat) (w : World) (S : Nat → Prop)
    (hps : SlAt w S 2 (PartR (FormAt w S m) w S) (.slice a0 ps.length c0) ps) (hsz : szP ps ≤ 4194304) :
    Calls Try.prog 92 #[.slice a0 ps.length c0] w (CopP w (fun g => w.heap.size ≤ g) ps) := by
  have hpsl : ps.length ≤ 4194304 := Nat.le_trans (szP_len ps) hsz
  have HP := Lib.hid hps; have HSZ := Lib.hid hsz; have IH := Lib.hid IH0
  clear hps hsz IH0
  go_enter Try.func92, Try.ntmps92
  go_wp2_with fail
  go_loopg [3, 11] ps.length (fun gn v3 v11 wj => ∃ k : Nat, Hid (gn + k = ps.length) ∧ k ≤ ps.length ∧ v11 = .int .i64 k ∧ w.grows wj ∧
    Hid (OwnAt wj w.heap.size 76 2 (PartR (FormOk wj (exS (fun g => w.heap.size ≤ g) v3)) wj (exS (fun g => w.heap.size ≤ g) v3)) v3 (ps.take k)))
  case atStart => exact ⟨0, rfl, Nat.zero_le _, rfl, (by repeat (with_reducible first | assumption | exact grA | apply grB | apply grC | apply grD | refine grE ?_ (by omega) _ | refine grF ?_ (by omega) _ _)), OwnAt_nil _ _ _ _ _⟩
  case round =>
    obtain ⟨k, HK, hk, rfl, hg, HW⟩ := hrel
    by_cases hlt : k < ps.length
    · obtain ⟨a0', cap0, e0, hl0, hc0, hE0⟩ := HP.out
      injection e0 with e1 e2 e3
      subst e1; subst e3
      rcases hE0 with h | ⟨g, off, rfl, hSg, hcell⟩
      · rw [h] at hlt; cases hlt
      obtain ⟨cs', hl2, hel, v', rfl, hsl⟩ := hcell k ps[k] (by simp [hlt])
      have htk : ps.take (k + 1) = ps.take k ++ [ps[k]] := List.take_succ_eq_append_getElem hlt
      have hszp : szQ ps[k] ≤ 4194304 := Nat.le_trans (szP_mem (List.getElem_mem hlt)) HSZ.out
      have he := hel.grows hg
      unfold eltAt at he
      have zr := lt_sz (hel.grows hg).lt
      generalize ps[k] = p at *
      obtain ⟨b, args⟩ := p
      obtain ⟨a1, c1, rfl, hn1, hn2⟩ := hsl.len
      have e3 : segOk (off + k * 2) 2 (wr.row g) = true := he.1
      have e4 : segV (off + k * 2) 2 (wr.row g) = .agg #[.bool b, .slice a1 args.length c1] := he.2
      rw [szQ_eq] at hszp
      have hal : args.length ≤ 4194303 := by have := szM_len args; omega
      have HSL := Lib.hid hsl; have HTK := Lib.hid htk; have HZP := Lib.hid hszp
      clear hcell hel he hsl htk hszp hl2
      have hws : w.heap.size ≤ wr.heap.size := hg.below.size
      have HB8 : Hid (∀ g, u3.ownBlock = some g → w.heap.size ≤ g ∧ g < wr.heap.size) := Lib.hid (fun g hg0 => HW.out.lt hg0)
      generalize hbe : wr.heap.size = bb at *
      go_wp2_with fail
      go_loopg [21] args.length (fun gn v21 wj => ∃ (j : Nat) (ap : Option Addr) (cp : Nat), Hid (gn + j = args.length) ∧ j ≤ args.length ∧ v21 = .int .i64 j ∧ w.grows wj ∧ wj.row bb = some (.cells #[.bool b, .slice a1 args.length c1] 76) ∧ wj.row (bb + 1) = some (.cells #[.bool b, .slice ap j cp] 76) ∧
        Hid (OwnAt wj w.heap.size 76 2 (PartR (FormOk wj (fun g => exS (fun g => w.heap.size ≤ g) u3 g ∧ g < bb)) wj (fun g => exS (fun g => w.heap.size ≤ g) u3 g ∧ g < bb)) u3 (ps.take k)) ∧
        Hid (OwnAt wj (bb + 1 + 1) 30 15 (FormOk wj (exS (fun g => bb + 1 + 1 ≤ g) (.slice ap j cp))) (.slice ap j cp) (args.take j)))
      case atStart => exact ⟨0, none, 0, rfl, Nat.zero_le _, rfl, (by repeat (with_reducible first | assumption | exact grA | apply grB | apply grC | apply grD | refine grE ?_ (by omega) _ | refine grF ?_ (by omega) _ _)), by simp [go_sem, hbe], by simp [go_sem, hbe], Lib.hid (by
          exact HW.out.parts_keep (fun g h => World.grows.row_eq (w := wr) (by repeat (with_reducible first | assumption | exact grA | apply grB | apply grC | apply grD | refine grE ?_ (by omega) _ | refine grF ?_ (by omega) _ _)) (hbe.symm ▸ (HB8.out g h).2)) (fun g h hlt => ⟨World.grows.row_eq (w := wr) (by repeat (with_reducible first | assumption | exact grA | apply grB | apply grC | apply grD | refine grE ?_ (by omega) _ | refine grF ?_ (by omega) _ _)) hlt, h, by omega⟩)), OwnAt_nil _ _ _ _ _⟩
      case round =>
        obtain ⟨j, ap, cp, HK2, hj, rfl, hg2, hy1, hy2, HW3, HW6⟩ := hrel
        clear zr e3 e4 HW hbe hg
        have z1 := row_sz' hy1; have z2 := row_sz' hy2
        by_cases hlt2 : j < args.length
        · obtain ⟨a1', cap1, e0, hl1, hc1, hE1⟩ := HSL.out
          injection e0 with e1 e2 e3
          subst e1; subst e3
          rcases hE1 with h | ⟨g2, off2, rfl, hSg2, hcell2⟩
          · rw [h] at hlt2; cases hlt2
          obtain ⟨cs3, hl15, hel2, hfa⟩ := hcell2 j args[j] (by simp [hlt2])
          have htj : args.take (j + 1) = args.take j ++ [args[j]] := List.take_succ_eq_append_getElem hlt2
          have hszf : szF args[j] ≤ 4194304 := by
            have h1 := szM_mem (List.getElem_mem hlt2)
            have h2 := HZP.out
            omega
          have he2 := hel2.grows hg2
          unfold eltAt at he2
          rw [hl15] at he2
          have zr2 := lt_sz (hel2.grows hg2).lt
          have e5 : segOk (off2 + j * 15) 15 (wr.row g2) = true := he2.1
          have e6 : segV (off2 + j * 15) 15 (wr.row g2) = .agg cs3.toArray := he2.2
          generalize args[j] = f at *
          obtain ⟨us3, ps3⟩ := f
          obtain ⟨hu37, hub3, v3, rfl, hs3⟩ := FormOk_us (⟨m, hfa⟩ : FormOk w S _ _)
          obtain ⟨a3, c3, rfl, hn31, hn32⟩ := hs3.len
          have c1 : ∀ W, w.grows W → Calls Try.prog 92 #[.slice a3 ps3.length c3] W (CopP W (fun g => W.heap.size ≤ g) ps3) := fun W hW => IH.out us3 ps3 _ W S (hfa.grows hW) (by rw [szF] at hszf; omega)
          have C1 := Lib.hid c1; have HTJ := Lib.hid htj; have HUB3 := Lib.hid hub3
          clear c1 htj hfa hs3 hel2 he2 hcell2 hl15 hszf hub3
          go_upto_region 9 with fail
          have hw8 : Rows2 (bb + 1) (.cells #[.bool b, .slice ap j cp] 76) wr.heap.size (.cells (formC us3 (.slice a3 ps3.length c3)).toArray 30) (wr.alloc (.cells (formC us3 (.slice a3 ps3.length c3)).toArray 30)).drew := ⟨by simp [go_sem, hy2, z2], by simp [go_sem]⟩
          refine wp_region_seq_tail (S := (Rows2 (bb + 1) (.cells #[.bool b, .slice ap j cp] 76) wr.heap.size (.cells (formC us3 (.slice a3 ps3.length c3)).toArray 30))) 11 (by kernel_rfl) (by kernel_rfl) hw8 ?_
          change wpSeqL _ _ _ _ _ _ (wr.alloc (.cells (formC us3 (.slice a3 ps3.length c3)).toArray 30)).drew
          simp only [List.take_succ_cons, List.take_zero, List.drop_succ_cons, List.drop_zero]
          (refine wpSeqL_free rfl ?_; refine wpQuiet_step (fun K hK => ?_); rw [if_pos (by simp [Region.wanted])]; refine ⟨.pointer (some ⟨bb + 1, 1, none⟩), fun w' hw' => ?_, ?_⟩; (focus (obtain ⟨r1, r2⟩ := hw'; have s1 := row_sz' r1; have s2 := row_sz' r2; simp [Oper.quietAt, Oper.quietUpon, go_sem, r1, r2, s1, s2, hu37])); go_simp; refine hK _ ?_; clear hK K; refine wpQuiet_nil ?_)
          (refine wpSeqL_free rfl ?_; refine wpQuiet_step (fun K hK => ?_); rw [if_pos (by simp [Region.wanted])]; refine ⟨.slice ap j cp, fun w' hw' => ?_, ?_⟩; (focus (obtain ⟨r1, r2⟩ := hw'; have s1 := row_sz' r1; have s2 := row_sz' r2; simp [Oper.quietAt, Oper.quietUpon, go_sem, r1, r2, s1, s2, hu37])); go_simp; refine hK _ ?_; clear hK K; refine wpQuiet_nil ?_)
          (refine wpSeqL_free rfl ?_; refine wpQuiet_step (fun K hK => ?_); rw [if_pos (by simp [Region.wanted])]; refine ⟨.pointer (some ⟨wr.heap.size, 0, none⟩), fun w' hw' => ?_, ?_⟩; (focus (obtain ⟨r1, r2⟩ := hw'; have s1 := row_sz' r1; have s2 := row_sz' r2; simp [Oper.quietAt, Oper.quietUpon, go_sem, r1, r2, s1, s2, hu37])); go_simp; refine hK _ ?_; clear hK K; refine wpQuiet_nil ?_)
          (refine wpSeqL_free rfl ?_; refine wpQuiet_step (fun K hK => ?_); rw [if_pos (by simp [Region.wanted])]; refine ⟨.agg (unitC us3).toArray, fun w' hw' => ?_, ?_⟩; (focus (obtain ⟨r1, r2⟩ := hw'; have s1 := row_sz' r1; have s2 := row_sz' r2; simp [Oper.quietAt, Oper.quietUpon, go_sem, r1, r2, s1, s2, hu37])); go_simp; refine hK _ ?_; clear hK K; refine wpQuiet_nil ?_)
          (refine wpSeqL_free rfl ?_; refine wpQuiet_step (fun K hK => ?_); rw [if_pos (by simp [Region.wanted])]; refine ⟨.pointer (some ⟨wr.heap.size, 14, none⟩), fun w' hw' => ?_, ?_⟩; (focus (obtain ⟨r1, r2⟩ := hw'; have s1 := row_sz' r1; have s2 := row_sz' r2; simp [Oper.quietAt, Oper.quietUpon, go_sem, r1, r2, s1, s2, hu37])); go_simp; refine hK _ ?_; clear hK K; refine wpQuiet_nil ?_)
          (refine wpSeqL_free rfl ?_; refine wpQuiet_step (fun K hK => ?_); rw [if_pos (by simp [Region.wanted])]; refine ⟨.slice a3 ps3.length c3, fun w' hw' => ?_, ?_⟩; (focus (obtain ⟨r1, r2⟩ := hw'; have s1 := row_sz' r1; have s2 := row_sz' r2; simp [Oper.quietAt, Oper.quietUpon, go_sem, r1, r2, s1, s2, hu37])); go_simp; refine hK _ ?_; clear hK K; refine wpQuiet_nil ?_)
          (refine wpSeqL_link rfl (fun K hK => ?_); go_simp; go_at_call 92; (with_reducible refine (C1.out _ (by repeat (with_reducible first | assumption | exact grA | apply grB | apply grC | apply grD | refine grE ?_ (by omega) _ | refine grF ?_ (by omega) _ _))).mono ?_); rintro e w1 ⟨a6, c6, rfl, hg6, h6⟩; have hrw1 : wr.grows w1 := World.grows.trans (by repeat (with_reducible first | assumption | exact grA | apply grB | apply grC | apply grD | refine grE ?_ (by omega) _ | refine grF ?_ (by omega) _ _)) hg6; have hra : (wr.alloc (.cells (formC us3 (.slice a3 ps3.length c3)).toArray 30)).grows w1 := World.grows.trans (by repeat (with_reducible first | assumption | exact grA | apply grB | apply grC | apply grD | refine grE ?_ (by omega) _ | refine grF ?_ (by omega) _ _)) hg6; have hgw1 : w.grows w1 := World.grows.trans hg2 hrw1; have q1 := (hrw1.row_eq z2.1).trans hy2; have q2 : w1.row wr.heap.size = some (.cells (formC us3 (.slice a3 ps3.length c3)).toArray 30) := (hra.row_eq (by simp)).trans (by simp [go_sem]); have t1 := row_sz' q1; have t2 := row_sz' q2; have t11 := t1.1; have t21 := t2.1; refine ⟨_, rfl, hK _ _ ⟨q1, q2⟩ ?_⟩; clear hK K)
          have hsz1 : wr.heap.size + 1 ≤ w1.heap.size := t21
          have H6 := Lib.hid h6; clear h6
          (refine wpSeqL_free rfl ?_; refine wpQuiet_step (fun K hK => ?_); rw [if_pos (by simp [Region.wanted])]; refine ⟨.agg (formC us3 (.slice a6 ps3.length c6)).toArray, fun w' hw' => ?_, ?_⟩; (focus (obtain ⟨r1, r2⟩ := hw'; have s1 := row_sz' r1; have s2 := row_sz' r2; simp [Oper.quietAt, Oper.quietUpon, go_sem, r1, r2, s1, s2, hu37])); go_simp; refine hK _ ?_; clear hK K; refine wpQuiet_nil ?_)
          (refine wpSeqL_link rfl (fun K hK => ?_); go_simp; refine hK _ _ ⟨by simp [go_sem, q1, t1], by simp [go_sem, q2, t2]⟩ ?_; clear hK K)
          obtain ⟨css, p1, p2, p3⟩ := HW6.out
          have hlj : (args.take j).length = j := by rw [List.length_take, Nat.min_eq_left (Nat.le_of_lt hlt2)]
          rw [hlj] at p3
          have P1 := Lib.hid p1; have P2 := Lib.hid p2; have P3 := Lib.hid p3
          clear p1 p2 p3
          (refine wpSeqL_app w (bb + 1 + 1) rfl rfl (.tmp 26) (.tmp 33) _ rfl 30 (.agg #[.int .i64 0, .int .i64 0, .int .i64 0, .int .i64 0, .int .i64 0, .int .i64 0, .int .i64 0, .int .i64 0, .int .i64 0, .int .i64 0, .int .i64 0, .int .i64 0, .int .i64 0, .int .i64 0, .slice none 0 0]) 15 136 Try.underlying49 (by kernel_rfl) rfl (by omega) (by omega) _ j _ rfl (P3.out.grows (by repeat (with_reducible first | assumption | exact grA | apply grB | apply grC | apply grD | refine grE ?_ (by omega) _ | refine grF ?_ (by omega) _ _))) _ 1 _ (formC us3 (.slice a6 ps3.length c6)) rfl (formC_len _ hu37) (cells_of_row (e := 30) (fr := (0, 0)) (by simp [go_sem])) (fun u hu => List.all_eq_true.1 (formC_one rfl) u hu) (by omega) (by repeat (with_reducible first | assumption | exact grA | apply grB | apply grC | apply grD | refine grE ?_ (by omega) _ | refine grF ?_ (by omega) _ _)) (by omega) (by simp; omega) ?_; intro v' w' hg' HO' HR' HG' HA')
          obtain ⟨a2, c2, rfl⟩ := own_slice HO'.out
          have hy2' : w'.row (bb + 1) = some (.cells #[.bool b, .slice ap j cp] 76) := (HR'.out _ (by omega)).trans (by simp [go_sem, q1, t1])
          have hy1' : w'.row bb = some (.cells #[.bool b, .slice (some ⟨g2, off2, none⟩) args.length c1] 76) := (HR'.out _ (by omega)).trans ((World.grows.row_eq (w := wr) (by repeat (with_reducible first | assumption | exact grA | apply grB | apply grC | apply grD | refine grE ?_ (by omega) _ | refine grF ?_ (by omega) _ _)) z1.1).trans hy1)
          have hyc : w'.row wr.heap.size = some (.cells (formC us3 (.slice a3 ps3.length c3)).toArray 30) := World.row_grown HG'.out (by simp [go_sem, q2, t2]) (fun e => by have := (HW6.out.lt e.symm).2; omega)
          have y1 := row_sz' hy1'; have y2 := row_sz' hy2'
          refine ⟨⟨hy2', hyc⟩, ?_⟩
          go_simp
          (refine wpSeqL_free rfl ?_; refine wpQuiet_step (fun K hK => ?_); rw [if_pos (by simp [Region.wanted])]; refine ⟨.pointer (some ⟨bb + 1, 1, none⟩), fun w' hw' => ?_, ?_⟩; (focus (obtain ⟨r1, r2⟩ := hw'; have s1 := row_sz' r1; have s2 := row_sz' r2; simp [Oper.quietAt, Oper.quietUpon, go_sem, r1, r2, s1, s2, hu37])); go_simp; refine hK _ ?_; clear hK K; refine wpQuiet_nil ?_)
          refine wpSeqL_end ?_
          go_wp2_with fail
          go_roundg (args.length - (j + 1))
          case rel =>
            refine ⟨j + 1, a2, c2, Lib.hid (by omega), by omega, by go_num, (by repeat (with_reducible first | assumption | exact grA | apply grB | apply grC | apply grD | refine grE ?_ (by omega) _ | refine grF ?_ (by omega) _ _)), by simp [go_sem, hy1', y1], by simp [go_sem, hy2', y2], Lib.hid ?_, Lib.hid ?_⟩
            · refine HW3.out.parts_keep (fun g h => ?_) (fun g h hlt => ⟨?_, h⟩)
              · have := (HB8.out g h).2
                rw [World.row_setCell, if_neg (by omega)]
                exact (HR'.out g (by omega)).trans (World.grows.row_eq (w := wr) (by repeat (with_reducible first | assumption | exact grA | apply grB | apply grC | apply grD | refine grE ?_ (by omega) _ | refine grF ?_ (by omega) _ _)) (by have := z1.1; omega))
              · have := h.2
                rw [World.row_setCell, if_neg (by omega)]
                exact (HR'.out g (by omega)).trans (World.grows.row_eq (w := wr) (by repeat (with_reducible first | assumption | exact grA | apply grB | apply grC | apply grD | refine grE ?_ (by omega) _ | refine grF ?_ (by omega) _ _)) (by have := z1.1; omega))
            · rw [HTJ.out]
              have hf6 : FormOk (w1.alloc (.cells (formC us3 (.slice a6 ps3.length c6)).toArray 30)) (exS (fun g => bb + 1 + 1 ≤ g) (.slice ap j cp)) (.mk us3 ps3) (formC us3 (.slice a6 ps3.length c6)) :=
                (FormOk_form hu37 HUB3.out H6.out).keep (fun g hg0 hlt => ⟨by rw [World.row_alloc, if_neg (by omega)], by
                  have hg1 : wr.heap.size + 1 ≤ g := by simpa using hg0
                  refine ⟨by omega, fun e => ?_⟩
                  have := (HW6.out.lt e).2; omega⟩)
              refine OwnAt.forms_keep2 (W := w') ?_ (fun g h => by rw [World.row_setCell, if_neg (by have := (HO'.out.lt g h).1; omega)]) (fun g h _ => ⟨by rw [World.row_setCell, if_neg (by have := h.1; omega)], h⟩)
              refine forms_append P1.out (fun i x cs hx hc => ⟨(P2.out i x cs hx hc).1, (P2.out i x cs hx hc).2.grows (hrw1.trans (World.grows.alloc World.grows.refl _))⟩) hf6 ?_ HG'.out HA'.out
              rw [hlj]; exact HO'.out
          case measure => have := HK2.out; omega
        · obtain rfl : j = args.length := by omega
          have h6 := HW6.out
          rw [List.take_length] at h6
          have hsl6 := h6.slAt (S := fun g => bb + 1 + 1 ≤ g) (by omega) (fun g hg0 => (h6.lt hg0).1)
          obtain ⟨css, p1, p2, p3⟩ := HW3.out
          have hlk : (ps.take k).length = k := by rw [List.length_take, Nat.min_eq_left (Nat.le_of_lt hlt)]
          rw [hlk] at p3
          have hlt6 : ∀ g, (Value.slice ap args.length cp).ownBlock = some g → bb + 1 + 1 ≤ g := fun g e => (h6.lt e).1
          have P1 := Lib.hid p1; have P2 := Lib.hid p2; have P3 := Lib.hid p3; have H6 := Lib.hid hsl6; have HLK := Lib.hid hlk
          have hz2 := z2.1
          clear p1 p2 p3 h6 hsl6 hlk
          go_wp2_with (first | (at_builtin; refine wpList_app w (w.heap.size) rfl (.tmp 37) (.tmp 39) _ rfl 76 (.agg #[.bool false, .slice none 0 0]) 2 32 Try.underlying28 (by kernel_rfl) rfl (by omega) (by omega) _ k _ rfl (P3.out.grows (by repeat (with_reducible first | assumption | exact grA | apply grB | apply grC | apply grD | refine grE ?_ (by omega) _ | refine grF ?_ (by omega) _ _))) _ 1 _ [.bool b, .slice ap args.length cp] rfl rfl (cells_of_row (e := 76) (fr := (0, 0)) (by simp [go_sem])) (by simp [Value.oneCell']) (by omega) (by repeat (with_reducible first | assumption | exact grA | apply grB | apply grC | apply grD | refine grE ?_ (by omega) _ | refine grF ?_ (by omega) _ _)) (by omega) (by simp; omega) ?_; intro v' w' hg' HO' HR' HG' HA'))
          go_wp2_with fail
          go_roundg (ps.length - (k + 1))
          case rel =>
            refine ⟨k + 1, Lib.hid (by omega), by omega, by go_num, hg', Lib.hid ?_⟩
            rw [HTK.out]
            have hk3 : ∀ g, (exS (fun g => w.heap.size ≤ g) u3 g ∧ g < bb) → g < wr.heap.size → (wr.alloc (.cells #[.bool b, .slice ap args.length cp] 76)).row g = wr.row g ∧ exS (fun g => w.heap.size ≤ g) u3 g := fun g h hlt => ⟨by rw [World.row_alloc, if_neg (by omega)], h.1⟩
            have hkN : ∀ g, bb + 1 + 1 ≤ g → g < wr.heap.size → (wr.alloc (.cells #[.bool b, .slice ap args.length cp] 76)).row g = wr.row g ∧ exS (fun g => w.heap.size ≤ g) u3 g := fun g h hlt => ⟨by rw [World.row_alloc, if_neg (by omega)], by omega, fun e => by have := (HB8.out g e).2; omega⟩
            refine parts_append P1.out (fun i x cs hx hc => ⟨(P2.out i x cs hx hc).1, ?_⟩) ⟨_, rfl, H6.out.keep hkN (fun f hf cs h => ?_)⟩ ?_ HG'.out HA'.out
            · obtain ⟨v2, e, h⟩ := (P2.out i x cs hx hc).2
              exact ⟨v2, e, h.keep hk3 fun f _ cs hf => hf.keep hk3⟩
            · exact h.keep fun g hg0 hlt => hkN g hg0.1 hlt
            · rw [HLK.out]; exact HO'.out
          case measure => have := HK.out; omega
    · obtain rfl : k = ps.length := by omega
      have hW := HW.out
      rw [List.take_length] at hW
      obtain ⟨css, p1, p2, p3⟩ := hW
      obtain ⟨a2, c2, rfl⟩ := own_slice p3
      have hsl := (HW.out.parts_keep (w' := wr) (T' := fun g => w.heap.size ≤ g) (fun _ _ => rfl) (fun g h _ => ⟨rfl, h.1⟩))
      rw [List.take_length] at hsl
      have h2 := hsl.slAt (S := fun g => w.heap.size ≤ g) (by omega) (fun g hg0 => (hsl.lt hg0).1)
      have H2 := Lib.hid h2
      clear p1 p2 p3 hsl h2 HW
      go_wp2_with fail
      go_ret
      exact ⟨_, _, rfl, (by repeat (with_reducible first | assumption | exact grA | apply grB | apply grC | apply grD | refine grE ?_ (by omega) _ | refine grF ?_ (by omega) _ _)), H2.out⟩

theorem cop_all : ∀ m, CopF m
  | 0 => fun _ _ _ _ _ h _ => h.elim
  | m + 1 => by
    intro us ps v w S h hsz
    obtain ⟨h1, h2, v', h3, h4⟩ := h
    have hv : v = v' := by
      have e := h3
      have : formC us v = formC us v' := e
      unfold formC at this
      simpa using this
    subst hv
    obtain ⟨a, c, rfl, _⟩ := h4.len
    exact cop_step m (cop_all m) ps a c w S h4 hsz
end Go.Proofs.Ythmicnjigfcljaa

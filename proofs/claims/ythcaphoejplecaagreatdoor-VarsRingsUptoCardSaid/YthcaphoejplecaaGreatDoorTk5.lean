/- Texts of the walk, one after the other; what each proves stands ahead of it. -/
import Derived.Test.YthcaphoejplecaaGreatDoorFlt
import Derived.Test.YthcaphoejplecaaGreatDoorOps
import Derived.Test.YthcaphoejplecaaGreatDoorTk3
import Derived.Test.YthcaphoejplecaaGreatDoorTk4
import Derived.Test.YthcaphoejplecaaGreatDoorTkN
set_option linter.unusedSimpArgs false
set_option linter.unusedVariables false
/- WALKS over jalousieref3: a number of one digit is the next token. No condition but the class of characters. -/
namespace Go
open Go.RowKit
/-- the token of a whole number -/
def numTk (v : Int) : Tk := ⟨10, ⟨#[]⟩, v, 1, true, false⟩
end Go
namespace Go.Proofs.YthcaphoejplecaaGreatDoor
open Go.RowKit
theorem tokN_row {w1 W : World} {b : Nat} (t : Tk) (y : w1.row b = some (.cells zeroA 65)) (hg : ((((((w1.setCell ⟨b, 0, none⟩ (.int .i64 t.k)).setCell ⟨b, 1, none⟩ (.string t.s)).setCell ⟨b, 2, none⟩ (.int .i64 t.n)).setCell ⟨b, 3, none⟩ (.int .i64 t.d)).setCell ⟨b, 4, none⟩ (.bool t.w)).setCell ⟨b, 5, none⟩ (.bool t.i)).grows W) : W.heap[b]? = some (.cells t.cs.toArray 65) := by
  have h := row_layV b t.cs 0 w1 _ _ _ y (by simp)
  have h2 := (hg.row_eq (row_sz' h).1).trans h
  exact h2
theorem tokN_res {fn : Func} {p : Tmp} (h : fn.results = #[.cell p 65]) (tmps : Array Value) {w1 W : World} {b : Nat} (t : Tk) (hp : tmps.getD p undef = .pointer (some ⟨b, 0, none⟩)) (y : w1.row b = some (.cells zeroA 65)) (hg : ((((((w1.setCell ⟨b, 0, none⟩ (.int .i64 t.k)).setCell ⟨b, 1, none⟩ (.string t.s)).setCell ⟨b, 2, none⟩ (.int .i64 t.n)).setCell ⟨b, 3, none⟩ (.int .i64 t.d)).setCell ⟨b, 4, none⟩ (.bool t.w)).setCell ⟨b, 5, none⟩ (.bool t.i)).grows W) : (results fn tmps).run Tryz.prog W = .ok t.v W :=
  results_cell_row h tmps W b 65 t.cs.toArray (0, 0) _ hp (tokN_row t y hg) Tryz.underlying65 rfl (by kernel_rfl)
theorem tokN_on {w w2 w1 W : World} {g b : Nat} {a : Option Addr} {cap n i : Nat} (hg2 : w.grows w2) (hon : On1 w2 g a cap n i w1) (hb : w.heap.size ≤ b) (hgb : g ≠ b) (t : Tk) (hg : ((((((w1.setCell ⟨b, 0, none⟩ (.int .i64 t.k)).setCell ⟨b, 1, none⟩ (.string t.s)).setCell ⟨b, 2, none⟩ (.int .i64 t.n)).setCell ⟨b, 3, none⟩ (.int .i64 t.d)).setCell ⟨b, 4, none⟩ (.bool t.w)).setCell ⟨b, 5, none⟩ (.bool t.i)).grows W) : On1 w g a cap n i W := by
  refine On1.more ⟨grownBy_trans (grownBy_trans (grownBy_of_grows hg2 (some g)) hon.gb (fun k e => .inl e)) (gby_lay b t.cs 0 w1) (fun k e => ?_), ?_⟩ hg
  · injection e with e; subst e; exact .inr hb
  · rw [row_layVO b g hgb]; exact hon.row
theorem num_on {w w2 w3 w5 W : World} {g b : Nat} {a : Option Addr} {cap n i : Nat} (hg2 : w.grows w2) (hon : On1 w2 g a cap n i w3) (hg5 : w3.grows w5) {i0 : Int} (hr : w5.row g = some (.cells #[.slice a n cap, .int .i64 i0] 100)) (hb : w.heap.size ≤ b) (hgb : g ≠ b) (c : Array Value) (hg : (w5.setRow b c).grows W) (hi : i0 = i := by omega) : On1 w g a cap n i W := by
  subst hi
  refine On1.more (W := w5.setRow b c) ⟨grownBy_trans (grownBy_trans (grownBy_trans (grownBy_of_grows hg2 (some g)) hon.gb (fun k e => .inl e)) (grownBy_of_grows hg5 none) (fun k e => by cases e)) (r1 := some b) ⟨rfl, rfl, rfl, Nat.le_of_eq (World.setRow_size' _ _ _).symm, fun k hk hne => ?_⟩ (fun k e => .inr (by injection e with e; omega)), ?_⟩ hg
  · have := World.row_setRow w5 b k c
    rw [if_neg (fun e => hne (by rw [e]))] at this
    exact this
  · rw [World.row_setRow, if_neg hgb]; exact hr
set_option maxRecDepth 100000 in
set_option maxHeartbeats 8000000 in
theorem xfigure49p {w0 w : World} {g : Nat} {a : Option Addr} {cap : Nat} {Lc : List Int} {i : Nat} (h : Rd w0 w g a cap Lc i) (hi1 : i + 1 ≤ Lc.length) (hc : chAt Lc i = 49) (hd : chAt Lc (i + 1) = 41) :
    Calls Tryz.prog 92 #[.pointer (some ⟨g, 0, none⟩)] w (fun e w' => e = .returned (numTk 1).v ∧ On1 w g a cap Lc.length (i + 1) w') := by
  have x0 := h.row
  have zx0 := row_sz' x0
  have hlen := h.len
  have hle := h.le
  have HRD := Lib.hid h
  have HDG := Lib.hid (fun (W : World) (hg : w.grows W) => xdigits_any (h.grows hg) (by rw [hc]; decide) (by rw [hd]; decide))
  have HOK := Lib.hid h.ok
  have HSL := Lib.hid h.sl
  clear h
  go_enter Tryz.func92, Tryz.ntmps92
  go_upto_region 1 with fail
  refine abs_rows (w := w) (G := fun W => Code.wp _ _ _ _ W) (by repeat (with_reducible first | assumption | exact grA | apply grB | apply grC | apply grD | refine grE ?_ (by omega) _ | refine grF ?_ (by omega) _ _)) [(w.heap.size, .cells #[.int .i64 0, .string ⟨#[]⟩, .int .i64 0, .int .i64 0, .bool false, .bool false] 65)] (by simp [go_sem, *]) ?_
  intro w2 gw2 hl
  simp only [List.forall_mem_cons, List.not_mem_nil, false_implies, implies_true, and_true] at hl
  have x9 := hl
  have zx9 := row_sz' x9
  have hrd := HRD.out.grows gw2
  have H0 := Lib.hid (fun (W : World) (hg : w2.grows W) => xat0 (hrd.grows hg))
  rw [hc] at H0
  have y0 := hrd.row
  have zy0 := row_sz' y0
  have hlt := zx0.1
  have HR2 := Lib.hid hrd
  have HDW := Lib.hid (fun (W : World) (hg : w2.grows W) => HDG.out W (gw2.trans hg))
  clear hrd x0 zx0
  generalize hb : w.heap.size = b at *
  go_upto_region 6 with (first | (go_at_call 61; (with_reducible refine (H0.out _ (by repeat (with_reducible first | assumption | exact grA | apply grB | apply grC | apply grD | refine grE ?_ (by omega) _ | refine grF ?_ (by omega) _ _))).mono ?_); rintro e w1 ⟨rfl, x1, rfl⟩) | (go_at_call 110; go_loud ((with_reducible refine (HDW.out _ (by repeat (with_reducible first | assumption | exact grA | apply grB | apply grC | apply grD | refine grE ?_ (by omega) _ | refine grF ?_ (by omega) _ _))).mono ?_); rintro r w3 ⟨rfl, hon⟩; replace hon := On1.fro (w := w2) hon (by repeat (with_reducible first | assumption | exact grA | apply grB | apply grC | apply grD | refine grE ?_ (by omega) _ | refine grF ?_ (by omega) _ _)))))
  have hrd3 := HR2.out.on hon hi1
  have x93 := (row_growV hon.gb zx9.1 (fun e => by injection e with e; omega)).trans x9
  have zx93 := row_sz' x93
  have y3 := hrd3.row
  have zy3 := row_sz' y3
  have H03 := Lib.hid (fun (W : World) (hg : w3.grows W) => xat0 (hrd3.grows hg))
  have H13 := Lib.hid (fun (W : World) (hg : w3.grows W) => xat1 (hrd3.grows hg))
  have H23 := Lib.hid (fun (W : World) (hg : w3.grows W) => xat2 (hrd3.grows hg))
  rw [hd] at H03
  have HON := Lib.hid hon
  have HR3 := Lib.hid hrd3
  clear y0 zy0 x9 zx9 hrd3 hon
  obtain ⟨gR, off, csR, rfl, hSR, -, kR, rfl, -⟩ := HSL.out.elt (i := i) (x := 49) (by
    have h2 := hc
    unfold chAt at h2
    rw [List.getElem?_eq_getElem (by omega)] at h2 ⊢
    exact congrArg some h2)
  have hcap : Lc.length ≤ cap := HSL.out.bound.2.1
  have HSM := Lib.hid (show SlAt w (fun b => b < g) 1 RuR (.slice (some ⟨gR, off + i, none⟩) 1 (cap - i)) [49] from by
    have h2 := SlAt.mid HSL.out (i := i) (j := i + 1) (by omega) hi1
    rw [Nat.mul_one, show i + 1 - i = 1 by omega] at h2
    have h3 : (Lc.drop i).take 1 = [49] := by
      have h4 := hc
      unfold chAt at h4
      rw [List.getElem?_eq_getElem (by omega)] at h4
      have h5 : Lc[i]'(by omega) = 49 := h4
      rw [List.drop_eq_getElem_cons (by omega), h5]
      rfl
    rw [h3] at h2
    exact h2)
  go_upto_region 18 with ((go_at_call 61; (with_reducible refine (H03.out _ (by repeat (with_reducible first | assumption | exact grA | apply grB | apply grC | apply grD | refine grE ?_ (by omega) _ | refine grF ?_ (by omega) _ _))).mono ?_); rintro e w1 ⟨rfl, x1, rfl⟩))
  rw [show ((i + 1 : Nat) : Int) = (i : Int) + 1 by omega] at y3
  refine abs_rows (w := w3) (G := fun W => Code.wp _ _ _ _ W) (by repeat (with_reducible first | assumption | exact grA | apply grB | apply grC | apply grD | refine grE ?_ (by omega) _ | refine grF ?_ (by omega) _ _)) [(g, .cells #[.slice (some ⟨gR, off, none⟩) Lc.length cap, .int .i64 ((i : Int) + 1)] 100), (b, .cells #[.int .i64 0, .string ⟨#[]⟩, .int .i64 0, .int .i64 0, .bool false, .bool false] 65)] (by simp [go_sem, *]) ?_
  intro w4 gw4 hl
  simp only [List.forall_mem_cons, List.not_mem_nil, false_implies, implies_true, and_true] at hl
  obtain ⟨y4, x4⟩ := hl
  have zy4 := row_sz' y4
  have zx4 := row_sz' x4
  have HTX := Lib.hid (fun (W : World) (hg : w4.grows W) => xtext_any (w := W) (L := [49]) (HSM.out.keep (S' := fun _ => True) (fun q hq hl => ⟨((gw4.trans hg).row_eq (Nat.lt_of_lt_of_le hl (Nat.le_trans gw2.below.size HON.out.gb.size))).trans ((row_growV HON.out.gb (Nat.lt_of_lt_of_le hl gw2.below.size) (fun e => by injection e with e; omega)).trans (gw2.row_eq hl)), trivial⟩) fun _ _ _ h => h) (by decide) (by decide) (fun x hx => by rw [List.mem_singleton.1 hx]; unfold OkC; decide))
  have n1 : ¬ cap = i := by omega
  have n2 : (i : Int) ≤ (i : Int) + 1 := by omega
  have n3 : (i : Int) + 1 ≤ (cap : Int) := by omega
  have n4 : (0 : Int) ≤ (i : Int) := by omega
  have n5 : ((i : Int) + 1).toNat = i + 1 := by omega
  have n6 : i + 1 - i = 1 := by omega
  obtain ⟨J, hJd⟩ : ∃ J : Act → World → (Nat → Bool) → Act → World → Prop, J = (fun a0 w0 L a' W => ∃ (g8 : Nat), Fr a0 [81, 82, 83, 84, 85, 86, 87, 88, 89, 90, 91, 92, 80, 93, 94, 95, 8, 9, 10] a' ∧ w0.grows W ∧ (L 0 = true → a'.tmps.getD 81 undef = .pointer (some ⟨g, 0, none⟩)) ∧ (L 1 = true → a'.tmps.getD 82 undef = .pointer (some ⟨g, 0, none⟩)) ∧ (L 2 = true → a'.tmps.getD 83 undef = .pointer (some ⟨g, 0, none⟩)) ∧ (L 3 = true → a'.tmps.getD 84 undef = .slice (some ⟨gR, off, none⟩) Lc.length cap) ∧ (L 4 = true → a'.tmps.getD 85 undef = .int .i64 i) ∧ (L 5 = true → a'.tmps.getD 86 undef = .pointer (some ⟨g, 0, none⟩)) ∧ (L 6 = true → a'.tmps.getD 87 undef = .pointer (some ⟨g, 0, none⟩)) ∧ (L 7 = true → a'.tmps.getD 88 undef = .pointer (some ⟨g, 1, none⟩)) ∧ (L 8 = true → a'.tmps.getD 89 undef = .int .i64 ((i : Int) + 1)) ∧ (L 9 = true → a'.tmps.getD 90 undef = .slice (some ⟨gR, off + i, none⟩) 1 (cap - i)) ∧ (L 10 = true → a'.tmps.getD 91 undef = .string ⟨#[49]⟩) ∧ (L 11 = true → a'.tmps.getD 92 undef = .tuple #[.agg #[.int .i64 1, .int .i64 1], .bool true, .int .i64 0]) ∧ (L 12 = true → a'.tmps.getD 80 undef = .tuple #[.agg #[.int .i64 1, .int .i64 1], .bool true, .int .i64 0]) ∧ (L 13 = true → a'.tmps.getD 93 undef = .agg #[.int .i64 1, .int .i64 1]) ∧ (L 14 = true → a'.tmps.getD 94 undef = .bool true) ∧ (L 15 = true → a'.tmps.getD 95 undef = .int .i64 0) ∧ (L 16 = true → a'.tmps.getD 8 undef = .pointer (some ⟨g8, 0, none⟩) ∧ w0.heap.size ≤ g8 ∧ g8 < W.heap.size ∧ ∃ cs : Array Value, cs.size = 2 ∧ (L 17 = true → cs = #[.int .i64 1, .int .i64 1]) ∧ W.row g8 = some (.cells cs 63)) ∧ (L 17 = true → L 16 = true) ∧ (L 18 = true → a'.tmps.getD 9 undef = .bool true) ∧ (L 19 = true → a'.tmps.getD 10 undef = .int .i64 0)) := ⟨_, rfl⟩
  refine wp_region_inv_lit (by kernel_rfl) (by kernel_rfl) J ?_ ?_ ?_
  · intro L hL
    rw [hJd]
    exact ⟨0, Fr.refl, World.grows.refl, (iN (hL 0 (by decide))), (iN (hL 1 (by decide))), (iN (hL 2 (by decide))), (iN (hL 3 (by decide))), (iN (hL 4 (by decide))), (iN (hL 5 (by decide))), (iN (hL 6 (by decide))), (iN (hL 7 (by decide))), (iN (hL 8 (by decide))), (iN (hL 9 (by decide))), (iN (hL 10 (by decide))), (iN (hL 11 (by decide))), (iN (hL 12 (by decide))), (iN (hL 13 (by decide))), (iN (hL 14 (by decide))), (iN (hL 15 (by decide))), (iN (hL 16 (by decide))), (iN (hL 17 (by decide))), (iN (hL 18 (by decide))), (iN (hL 19 (by decide)))⟩
  · refine And.intro ?_ (And.intro ?_ (And.intro ?_ (And.intro ?_ (And.intro ?_ (And.intro ?_ (And.intro ?_ (And.intro ?_ (And.intro ?_ (And.intro ?_ (And.intro ?_ (And.intro ?_ (And.intro ?_ (And.intro ?_ (And.intro ?_ (And.intro ?_ (And.intro ?_ (And.intro ?_ (And.intro ?_ (And.intro ?_ trivial)))))))))))))))))))
    · intro L a W hL hd hcl hJ K hK
      rw [hJd] at hJ
      obtain ⟨g8, hB⟩ := hJ
      have hn : a.tmps.size = 122 := hB.1.2.1
      have hgV : World.grows w4 W := World.grows.trans (grD grA) hB.2.1
      have e0 := hB.1.2.2 0 (by decide); have e0r := get_eval e0
      have r1 := hgV.row_eq zy4.1; rw [y4] at r1; have zr1 := row_sz' r1
      have HF := Lib.hid (And.intro hL (And.intro hd (And.intro hcl (And.intro hn hB))))
      clear hL hd hcl hn hB
      go_simp
      obtain ⟨hL, hd, hcl, hn, hf, hG, f0, f1, f2, f3, f4, f5, f6, f7, f8, f9, f10, f11, f12, f13, f14, f15, f16, f17, f18, f19⟩ := HF.out
      have hgw : W.grows W := World.grows.refl
      refine hK _ _ ?_
      rw [hJd]
      exact ⟨g8, (hf.put (by decide)), (hG.trans hgw), (fun _ => (iS hn rfl)), (iq rfl rfl f1), (iq rfl rfl f2), (iq rfl rfl f3), (iq rfl rfl f4), (iq rfl rfl f5), (iq rfl rfl f6), (iq rfl rfl f7), (iq rfl rfl f8), (iq rfl rfl f9), (iq rfl rfl f10), (iq rfl rfl f11), (iq rfl rfl f12), (iq rfl rfl f13), (iq rfl rfl f14), (iq rfl rfl f15), (ia rfl rfl (iU rfl) f16 hgw), (iw rfl f17), (iq rfl rfl f18), (iq rfl rfl f19)⟩
    · intro L a W hL hd hcl hJ K hK
      rw [hJd] at hJ
      obtain ⟨g8, hB⟩ := hJ
      have hn : a.tmps.size = 122 := hB.1.2.1
      have hgV : World.grows w4 W := World.grows.trans (grD grA) hB.2.1
      have p0 := hB.2.2.1 (hd 0 (by kernel_rfl))
      have p0r := get_eval p0
      have r1 := hgV.row_eq zy4.1; rw [y4] at r1; have zr1 := row_sz' r1
      have HF := Lib.hid (And.intro hL (And.intro hd (And.intro hcl (And.intro hn hB))))
      clear hL hd hcl hn hB
      go_simp
      obtain ⟨hL, hd, hcl, hn, hf, hG, f0, f1, f2, f3, f4, f5, f6, f7, f8, f9, f10, f11, f12, f13, f14, f15, f16, f17, f18, f19⟩ := HF.out
      have hgw : W.grows W := World.grows.refl
      refine hK _ _ ?_
      rw [hJd]
      exact ⟨g8, (hf.put (by decide)), (hG.trans hgw), (iq rfl rfl f0), (fun _ => (iS hn rfl)), (iq rfl rfl f2), (iq rfl rfl f3), (iq rfl rfl f4), (iq rfl rfl f5), (iq rfl rfl f6), (iq rfl rfl f7), (iq rfl rfl f8), (iq rfl rfl f9), (iq rfl rfl f10), (iq rfl rfl f11), (iq rfl rfl f12), (iq rfl rfl f13), (iq rfl rfl f14), (iq rfl rfl f15), (ia rfl rfl (iU rfl) f16 hgw), (iw rfl f17), (iq rfl rfl f18), (iq rfl rfl f19)⟩
    · intro L a W hL hd hcl hJ K hK
      rw [hJd] at hJ
      obtain ⟨g8, hB⟩ := hJ
      have hn : a.tmps.size = 122 := hB.1.2.1
      have hgV : World.grows w4 W := World.grows.trans (grD grA) hB.2.1
      have p1 := hB.2.2.2.1 (hd 1 (by kernel_rfl))
      have p1r := get_eval p1
      have r1 := hgV.row_eq zy4.1; rw [y4] at r1; have zr1 := row_sz' r1
      have HF := Lib.hid (And.intro hL (And.intro hd (And.intro hcl (And.intro hn hB))))
      clear hL hd hcl hn hB
      go_simp
      obtain ⟨hL, hd, hcl, hn, hf, hG, f0, f1, f2, f3, f4, f5, f6, f7, f8, f9, f10, f11, f12, f13, f14, f15, f16, f17, f18, f19⟩ := HF.out
      have hgw : W.grows W := World.grows.refl
      refine hK _ _ ?_
      rw [hJd]
      exact ⟨g8, (hf.put (by decide)), (hG.trans hgw), (iq rfl rfl f0), (iq rfl rfl f1), (fun _ => (iS hn rfl)), (iq rfl rfl f3), (iq rfl rfl f4), (iq rfl rfl f5), (iq rfl rfl f6), (iq rfl rfl f7), (iq rfl rfl f8), (iq rfl rfl f9), (iq rfl rfl f10), (iq rfl rfl f11), (iq rfl rfl f12), (iq rfl rfl f13), (iq rfl rfl f14), (iq rfl rfl f15), (ia rfl rfl (iU rfl) f16 hgw), (iw rfl f17), (iq rfl rfl f18), (iq rfl rfl f19)⟩
    · intro L a W hL hd hcl hJ K hK
      rw [hJd] at hJ
      obtain ⟨g8, hB⟩ := hJ
      have hn : a.tmps.size = 122 := hB.1.2.1
      have hgV : World.grows w4 W := World.grows.trans (grD grA) hB.2.1
      have p2 := hB.2.2.2.2.1 (hd 2 (by kernel_rfl))
      have p2r := get_eval p2
      have r1 := hgV.row_eq zy4.1; rw [y4] at r1; have zr1 := row_sz' r1
      have HF := Lib.hid (And.intro hL (And.intro hd (And.intro hcl (And.intro hn hB))))
      clear hL hd hcl hn hB
      go_simp
      obtain ⟨hL, hd, hcl, hn, hf, hG, f0, f1, f2, f3, f4, f5, f6, f7, f8, f9, f10, f11, f12, f13, f14, f15, f16, f17, f18, f19⟩ := HF.out
      have hgw : W.grows W := World.grows.refl
      refine hK _ _ ?_
      rw [hJd]
      exact ⟨g8, (hf.put (by decide)), (hG.trans hgw), (iq rfl rfl f0), (iq rfl rfl f1), (iq rfl rfl f2), (fun _ => (iS hn rfl)), (iq rfl rfl f4), (iq rfl rfl f5), (iq rfl rfl f6), (iq rfl rfl f7), (iq rfl rfl f8), (iq rfl rfl f9), (iq rfl rfl f10), (iq rfl rfl f11), (iq rfl rfl f12), (iq rfl rfl f13), (iq rfl rfl f14), (iq rfl rfl f15), (ia rfl rfl (iU rfl) f16 hgw), (iw rfl f17), (iq rfl rfl f18), (iq rfl rfl f19)⟩
    · intro L a W hL hd hcl hJ K hK
      rw [hJd] at hJ
      obtain ⟨g8, hB⟩ := hJ
      have hn : a.tmps.size = 122 := hB.1.2.1
      have hgV : World.grows w4 W := World.grows.trans (grD grA) hB.2.1
      have e3 := hB.1.2.2 3 (by decide); have e3r := get_eval e3
      have r1 := hgV.row_eq zy4.1; rw [y4] at r1; have zr1 := row_sz' r1
      have HF := Lib.hid (And.intro hL (And.intro hd (And.intro hcl (And.intro hn hB))))
      clear hL hd hcl hn hB
      go_simp
      obtain ⟨hL, hd, hcl, hn, hf, hG, f0, f1, f2, f3, f4, f5, f6, f7, f8, f9, f10, f11, f12, f13, f14, f15, f16, f17, f18, f19⟩ := HF.out
      have hgw : W.grows W := World.grows.refl
      refine hK _ _ ?_
      rw [hJd]
      exact ⟨g8, (hf.put (by decide)), (hG.trans hgw), (iq rfl rfl f0), (iq rfl rfl f1), (iq rfl rfl f2), (iq rfl rfl f3), (fun _ => (iS hn rfl)), (iq rfl rfl f5), (iq rfl rfl f6), (iq rfl rfl f7), (iq rfl rfl f8), (iq rfl rfl f9), (iq rfl rfl f10), (iq rfl rfl f11), (iq rfl rfl f12), (iq rfl rfl f13), (iq rfl rfl f14), (iq rfl rfl f15), (ia rfl rfl (iU rfl) f16 hgw), (iw rfl f17), (iq rfl rfl f18), (iq rfl rfl f19)⟩
    · intro L a W hL hd hcl hJ K hK
      rw [hJd] at hJ
      obtain ⟨g8, hB⟩ := hJ
      have hn : a.tmps.size = 122 := hB.1.2.1
      have hgV : World.grows w4 W := World.grows.trans (grD grA) hB.2.1
      have e0 := hB.1.2.2 0 (by decide); have e0r := get_eval e0
      have r1 := hgV.row_eq zy4.1; rw [y4] at r1; have zr1 := row_sz' r1
      have HF := Lib.hid (And.intro hL (And.intro hd (And.intro hcl (And.intro hn hB))))
      clear hL hd hcl hn hB
      go_simp
      obtain ⟨hL, hd, hcl, hn, hf, hG, f0, f1, f2, f3, f4, f5, f6, f7, f8, f9, f10, f11, f12, f13, f14, f15, f16, f17, f18, f19⟩ := HF.out
      have hgw : W.grows W := World.grows.refl
      refine hK _ _ ?_
      rw [hJd]
      exact ⟨g8, (hf.put (by decide)), (hG.trans hgw), (iq rfl rfl f0), (iq rfl rfl f1), (iq rfl rfl f2), (iq rfl rfl f3), (iq rfl rfl f4), (fun _ => (iS hn rfl)), (iq rfl rfl f6), (iq rfl rfl f7), (iq rfl rfl f8), (iq rfl rfl f9), (iq rfl rfl f10), (iq rfl rfl f11), (iq rfl rfl f12), (iq rfl rfl f13), (iq rfl rfl f14), (iq rfl rfl f15), (ia rfl rfl (iU rfl) f16 hgw), (iw rfl f17), (iq rfl rfl f18), (iq rfl rfl f19)⟩
    · intro L a W hL hd hcl hJ K hK
      rw [hJd] at hJ
      obtain ⟨g8, hB⟩ := hJ
      have hn : a.tmps.size = 122 := hB.1.2.1
      have hgV : World.grows w4 W := World.grows.trans (grD grA) hB.2.1
      have p5 := hB.2.2.2.2.2.2.2.1 (hd 5 (by kernel_rfl))
      have p5r := get_eval p5
      have r1 := hgV.row_eq zy4.1; rw [y4] at r1; have zr1 := row_sz' r1
      have HF := Lib.hid (And.intro hL (And.intro hd (And.intro hcl (And.intro hn hB))))
      clear hL hd hcl hn hB
      go_simp
      obtain ⟨hL, hd, hcl, hn, hf, hG, f0, f1, f2, f3, f4, f5, f6, f7, f8, f9, f10, f11, f12, f13, f14, f15, f16, f17, f18, f19⟩ := HF.out
      have hgw : W.grows W := World.grows.refl
      refine hK _ _ ?_
      rw [hJd]
      exact ⟨g8, (hf.put (by decide)), (hG.trans hgw), (iq rfl rfl f0), (iq rfl rfl f1), (iq rfl rfl f2), (iq rfl rfl f3), (iq rfl rfl f4), (iq rfl rfl f5), (fun _ => (iS hn rfl)), (iq rfl rfl f7), (iq rfl rfl f8), (iq rfl rfl f9), (iq rfl rfl f10), (iq rfl rfl f11), (iq rfl rfl f12), (iq rfl rfl f13), (iq rfl rfl f14), (iq rfl rfl f15), (ia rfl rfl (iU rfl) f16 hgw), (iw rfl f17), (iq rfl rfl f18), (iq rfl rfl f19)⟩
    · intro L a W hL hd hcl hJ K hK
      rw [hJd] at hJ
      obtain ⟨g8, hB⟩ := hJ
      have hn : a.tmps.size = 122 := hB.1.2.1
      have hgV : World.grows w4 W := World.grows.trans (grD grA) hB.2.1
      have p6 := hB.2.2.2.2.2.2.2.2.1 (hd 6 (by kernel_rfl))
      have p6r := get_eval p6
      have r1 := hgV.row_eq zy4.1; rw [y4] at r1; have zr1 := row_sz' r1
      have HF := Lib.hid (And.intro hL (And.intro hd (And.intro hcl (And.intro hn hB))))
      clear hL hd hcl hn hB
      go_simp
      obtain ⟨hL, hd, hcl, hn, hf, hG, f0, f1, f2, f3, f4, f5, f6, f7, f8, f9, f10, f11, f12, f13, f14, f15, f16, f17, f18, f19⟩ := HF.out
      have hgw : W.grows W := World.grows.refl
      refine hK _ _ ?_
      rw [hJd]
      exact ⟨g8, (hf.put (by decide)), (hG.trans hgw), (iq rfl rfl f0), (iq rfl rfl f1), (iq rfl rfl f2), (iq rfl rfl f3), (iq rfl rfl f4), (iq rfl rfl f5), (iq rfl rfl f6), (fun _ => (iS hn rfl)), (iq rfl rfl f8), (iq rfl rfl f9), (iq rfl rfl f10), (iq rfl rfl f11), (iq rfl rfl f12), (iq rfl rfl f13), (iq rfl rfl f14), (iq rfl rfl f15), (ia rfl rfl (iU rfl) f16 hgw), (iw rfl f17), (iq rfl rfl f18), (iq rfl rfl f19)⟩
    · intro L a W hL hd hcl hJ K hK
      rw [hJd] at hJ
      obtain ⟨g8, hB⟩ := hJ
      have hn : a.tmps.size = 122 := hB.1.2.1
      have hgV : World.grows w4 W := World.grows.trans (grD grA) hB.2.1
      have p7 := hB.2.2.2.2.2.2.2.2.2.1 (hd 7 (by kernel_rfl))
      have p7r := get_eval p7
      have r1 := hgV.row_eq zy4.1; rw [y4] at r1; have zr1 := row_sz' r1
      have HF := Lib.hid (And.intro hL (And.intro hd (And.intro hcl (And.intro hn hB))))
      clear hL hd hcl hn hB
      go_simp
      obtain ⟨hL, hd, hcl, hn, hf, hG, f0, f1, f2, f3, f4, f5, f6, f7, f8, f9, f10, f11, f12, f13, f14, f15, f16, f17, f18, f19⟩ := HF.out
      have hgw : W.grows W := World.grows.refl
      refine hK _ _ ?_
      rw [hJd]
      exact ⟨g8, (hf.put (by decide)), (hG.trans hgw), (iq rfl rfl f0), (iq rfl rfl f1), (iq rfl rfl f2), (iq rfl rfl f3), (iq rfl rfl f4), (iq rfl rfl f5), (iq rfl rfl f6), (iq rfl rfl f7), (fun _ => (iS hn rfl)), (iq rfl rfl f9), (iq rfl rfl f10), (iq rfl rfl f11), (iq rfl rfl f12), (iq rfl rfl f13), (iq rfl rfl f14), (iq rfl rfl f15), (ia rfl rfl (iU rfl) f16 hgw), (iw rfl f17), (iq rfl rfl f18), (iq rfl rfl f19)⟩
    · intro L a W hL hd hcl hJ K hK
      rw [hJd] at hJ
      obtain ⟨g8, hB⟩ := hJ
      have hn : a.tmps.size = 122 := hB.1.2.1
      have hgV : World.grows w4 W := World.grows.trans (grD grA) hB.2.1
      have p3 := hB.2.2.2.2.2.1 (hd 3 (by kernel_rfl))
      have p4 := hB.2.2.2.2.2.2.1 (hd 4 (by kernel_rfl))
      have p8 := hB.2.2.2.2.2.2.2.2.2.2.1 (hd 8 (by kernel_rfl))
      have p3r := get_eval p3
      have p4r := get_eval p4
      have p8r := get_eval p8
      have r1 := hgV.row_eq zy4.1; rw [y4] at r1; have zr1 := row_sz' r1
      have HF := Lib.hid (And.intro hL (And.intro hd (And.intro hcl (And.intro hn hB))))
      clear hL hd hcl hn hB
      go_simp
      obtain ⟨hL, hd, hcl, hn, hf, hG, f0, f1, f2, f3, f4, f5, f6, f7, f8, f9, f10, f11, f12, f13, f14, f15, f16, f17, f18, f19⟩ := HF.out
      have hgw : W.grows W := World.grows.refl
      refine hK _ _ ?_
      rw [hJd]
      exact ⟨g8, (hf.put (by decide)), (hG.trans hgw), (iq rfl rfl f0), (iq rfl rfl f1), (iq rfl rfl f2), (iq rfl rfl f3), (iq rfl rfl f4), (iq rfl rfl f5), (iq rfl rfl f6), (iq rfl rfl f7), (iq rfl rfl f8), (fun _ => (iS hn rfl)), (iq rfl rfl f10), (iq rfl rfl f11), (iq rfl rfl f12), (iq rfl rfl f13), (iq rfl rfl f14), (iq rfl rfl f15), (ia rfl rfl (iU rfl) f16 hgw), (iw rfl f17), (iq rfl rfl f18), (iq rfl rfl f19)⟩
    · intro L a W hL hd hcl hJ K hK
      rw [hJd] at hJ
      obtain ⟨g8, hB⟩ := hJ
      have hn : a.tmps.size = 122 := hB.1.2.1
      have hgV : World.grows w4 W := World.grows.trans (grD grA) hB.2.1
      have p9 := hB.2.2.2.2.2.2.2.2.2.2.2.1 (hd 9 (by kernel_rfl))
      have p9r := get_eval p9
      have r1 := hgV.row_eq zy4.1; rw [y4] at r1; have zr1 := row_sz' r1
      have HF := Lib.hid (And.intro hL (And.intro hd (And.intro hcl (And.intro hn hB))))
      clear hL hd hcl hn hB
      go_simp
      (go_at_call 94; (with_reducible refine (HTX.out W hgV).mono ?_); rintro e w9 ⟨rfl, hg9⟩)
      refine ⟨_, rfl, ?_⟩
      obtain ⟨hL, hd, hcl, hn, hf, hG, f0, f1, f2, f3, f4, f5, f6, f7, f8, f9, f10, f11, f12, f13, f14, f15, f16, f17, f18, f19⟩ := HF.out
      have hgw : W.grows w9 := hg9
      refine hK _ _ ?_
      rw [hJd]
      exact ⟨g8, (hf.put (by decide)), (hG.trans hgw), (iq rfl rfl f0), (iq rfl rfl f1), (iq rfl rfl f2), (iq rfl rfl f3), (iq rfl rfl f4), (iq rfl rfl f5), (iq rfl rfl f6), (iq rfl rfl f7), (iq rfl rfl f8), (iq rfl rfl f9), (fun _ => (iS hn rfl)), (iq rfl rfl f11), (iq rfl rfl f12), (iq rfl rfl f13), (iq rfl rfl f14), (iq rfl rfl f15), (ia rfl rfl (iU rfl) f16 hgw), (iw rfl f17), (iq rfl rfl f18), (iq rfl rfl f19)⟩
    · intro L a W hL hd hcl hJ K hK
      rw [hJd] at hJ
      obtain ⟨g8, hB⟩ := hJ
      have hn : a.tmps.size = 122 := hB.1.2.1
      have hgV : World.grows w4 W := World.grows.trans (grD grA) hB.2.1
      have p10 := hB.2.2.2.2.2.2.2.2.2.2.2.2.1 (hd 10 (by kernel_rfl))
      have p10r := get_eval p10
      have r1 := hgV.row_eq zy4.1; rw [y4] at r1; have zr1 := row_sz' r1
      have HF := Lib.hid (And.intro hL (And.intro hd (And.intro hcl (And.intro hn hB))))
      clear hL hd hcl hn hB
      go_simp
      (go_at_call 111; (with_reducible refine (ydec49 W).mono ?_); rintro e w9 ⟨rfl, hg9⟩)
      refine ⟨_, rfl, ?_⟩
      obtain ⟨hL, hd, hcl, hn, hf, hG, f0, f1, f2, f3, f4, f5, f6, f7, f8, f9, f10, f11, f12, f13, f14, f15, f16, f17, f18, f19⟩ := HF.out
      have hgw : W.grows w9 := hg9
      refine hK _ _ ?_
      rw [hJd]
      exact ⟨g8, (hf.put (by decide)), (hG.trans hgw), (iq rfl rfl f0), (iq rfl rfl f1), (iq rfl rfl f2), (iq rfl rfl f3), (iq rfl rfl f4), (iq rfl rfl f5), (iq rfl rfl f6), (iq rfl rfl f7), (iq rfl rfl f8), (iq rfl rfl f9), (iq rfl rfl f10), (fun _ => (iS hn rfl)), (iq rfl rfl f12), (iq rfl rfl f13), (iq rfl rfl f14), (iq rfl rfl f15), (ia rfl rfl (iU rfl) f16 hgw), (iw rfl f17), (iq rfl rfl f18), (iq rfl rfl f19)⟩
    · intro L a W hL hd hcl hJ K hK
      rw [hJd] at hJ
      obtain ⟨g8, hB⟩ := hJ
      have hn : a.tmps.size = 122 := hB.1.2.1
      have hgV : World.grows w4 W := World.grows.trans (grD grA) hB.2.1
      have p11 := hB.2.2.2.2.2.2.2.2.2.2.2.2.2.1 (hd 11 (by kernel_rfl))
      have p11r := get_eval p11
      have r1 := hgV.row_eq zy4.1; rw [y4] at r1; have zr1 := row_sz' r1
      have HF := Lib.hid (And.intro hL (And.intro hd (And.intro hcl (And.intro hn hB))))
      clear hL hd hcl hn hB
      go_simp
      obtain ⟨hL, hd, hcl, hn, hf, hG, f0, f1, f2, f3, f4, f5, f6, f7, f8, f9, f10, f11, f12, f13, f14, f15, f16, f17, f18, f19⟩ := HF.out
      have hgw : W.grows W := World.grows.refl
      refine hK _ _ ?_
      rw [hJd]
      exact ⟨g8, (hf.put (by decide)), (hG.trans hgw), (iq rfl rfl f0), (iq rfl rfl f1), (iq rfl rfl f2), (iq rfl rfl f3), (iq rfl rfl f4), (iq rfl rfl f5), (iq rfl rfl f6), (iq rfl rfl f7), (iq rfl rfl f8), (iq rfl rfl f9), (iq rfl rfl f10), (iq rfl rfl f11), (fun _ => (iS hn rfl)), (iq rfl rfl f13), (iq rfl rfl f14), (iq rfl rfl f15), (ia rfl rfl (iU rfl) f16 hgw), (iw rfl f17), (iq rfl rfl f18), (iq rfl rfl f19)⟩
    · intro L a W hL hd hcl hJ K hK
      rw [hJd] at hJ
      obtain ⟨g8, hB⟩ := hJ
      have hn : a.tmps.size = 122 := hB.1.2.1
      have hgV : World.grows w4 W := World.grows.trans (grD grA) hB.2.1
      have p12 := hB.2.2.2.2.2.2.2.2.2.2.2.2.2.2.1 (hd 12 (by kernel_rfl))
      have p12r := get_eval p12
      have r1 := hgV.row_eq zy4.1; rw [y4] at r1; have zr1 := row_sz' r1
      have HF := Lib.hid (And.intro hL (And.intro hd (And.intro hcl (And.intro hn hB))))
      clear hL hd hcl hn hB
      go_simp
      obtain ⟨hL, hd, hcl, hn, hf, hG, f0, f1, f2, f3, f4, f5, f6, f7, f8, f9, f10, f11, f12, f13, f14, f15, f16, f17, f18, f19⟩ := HF.out
      have hgw : W.grows W := World.grows.refl
      refine hK _ _ ?_
      rw [hJd]
      exact ⟨g8, (hf.put (by decide)), (hG.trans hgw), (iq rfl rfl f0), (iq rfl rfl f1), (iq rfl rfl f2), (iq rfl rfl f3), (iq rfl rfl f4), (iq rfl rfl f5), (iq rfl rfl f6), (iq rfl rfl f7), (iq rfl rfl f8), (iq rfl rfl f9), (iq rfl rfl f10), (iq rfl rfl f11), (iq rfl rfl f12), (fun _ => (iS hn rfl)), (iq rfl rfl f14), (iq rfl rfl f15), (ia rfl rfl (iU rfl) f16 hgw), (iw rfl f17), (iq rfl rfl f18), (iq rfl rfl f19)⟩
    · intro L a W hL hd hcl hJ K hK
      rw [hJd] at hJ
      obtain ⟨g8, hB⟩ := hJ
      have hn : a.tmps.size = 122 := hB.1.2.1
      have hgV : World.grows w4 W := World.grows.trans (grD grA) hB.2.1
      have p12 := hB.2.2.2.2.2.2.2.2.2.2.2.2.2.2.1 (hd 12 (by kernel_rfl))
      have p12r := get_eval p12
      have r1 := hgV.row_eq zy4.1; rw [y4] at r1; have zr1 := row_sz' r1
      have HF := Lib.hid (And.intro hL (And.intro hd (And.intro hcl (And.intro hn hB))))
      clear hL hd hcl hn hB
      go_simp
      obtain ⟨hL, hd, hcl, hn, hf, hG, f0, f1, f2, f3, f4, f5, f6, f7, f8, f9, f10, f11, f12, f13, f14, f15, f16, f17, f18, f19⟩ := HF.out
      have hgw : W.grows W := World.grows.refl
      refine hK _ _ ?_
      rw [hJd]
      exact ⟨g8, (hf.put (by decide)), (hG.trans hgw), (iq rfl rfl f0), (iq rfl rfl f1), (iq rfl rfl f2), (iq rfl rfl f3), (iq rfl rfl f4), (iq rfl rfl f5), (iq rfl rfl f6), (iq rfl rfl f7), (iq rfl rfl f8), (iq rfl rfl f9), (iq rfl rfl f10), (iq rfl rfl f11), (iq rfl rfl f12), (iq rfl rfl f13), (fun _ => (iS hn rfl)), (iq rfl rfl f15), (ia rfl rfl (iU rfl) f16 hgw), (iw rfl f17), (iq rfl rfl f18), (iq rfl rfl f19)⟩
    · intro L a W hL hd hcl hJ K hK
      rw [hJd] at hJ
      obtain ⟨g8, hB⟩ := hJ
      have hn : a.tmps.size = 122 := hB.1.2.1
      have hgV : World.grows w4 W := World.grows.trans (grD grA) hB.2.1
      have p12 := hB.2.2.2.2.2.2.2.2.2.2.2.2.2.2.1 (hd 12 (by kernel_rfl))
      have p12r := get_eval p12
      have r1 := hgV.row_eq zy4.1; rw [y4] at r1; have zr1 := row_sz' r1
      have HF := Lib.hid (And.intro hL (And.intro hd (And.intro hcl (And.intro hn hB))))
      clear hL hd hcl hn hB
      go_simp
      obtain ⟨hL, hd, hcl, hn, hf, hG, f0, f1, f2, f3, f4, f5, f6, f7, f8, f9, f10, f11, f12, f13, f14, f15, f16, f17, f18, f19⟩ := HF.out
      have hgw : W.grows W := World.grows.refl
      refine hK _ _ ?_
      rw [hJd]
      exact ⟨g8, (hf.put (by decide)), (hG.trans hgw), (iq rfl rfl f0), (iq rfl rfl f1), (iq rfl rfl f2), (iq rfl rfl f3), (iq rfl rfl f4), (iq rfl rfl f5), (iq rfl rfl f6), (iq rfl rfl f7), (iq rfl rfl f8), (iq rfl rfl f9), (iq rfl rfl f10), (iq rfl rfl f11), (iq rfl rfl f12), (iq rfl rfl f13), (iq rfl rfl f14), (fun _ => (iS hn rfl)), (ia rfl rfl (iU rfl) f16 hgw), (iw rfl f17), (iq rfl rfl f18), (iq rfl rfl f19)⟩
    · intro L a W hL hd hcl hJ K hK
      rw [hJd] at hJ
      obtain ⟨g8, hB⟩ := hJ
      have hn : a.tmps.size = 122 := hB.1.2.1
      have hgV : World.grows w4 W := World.grows.trans (grD grA) hB.2.1
      have HF := Lib.hid (And.intro hL (And.intro hd (And.intro hcl (And.intro hn hB))))
      clear hL hd hcl hn hB
      go_simp
      obtain ⟨hL, hd, hcl, hn, hf, hG, f0, f1, f2, f3, f4, f5, f6, f7, f8, f9, f10, f11, f12, f13, f14, f15, f16, f17, f18, f19⟩ := HF.out
      have hgA : ∀ o, W.grows (W.alloc o) := fun o => World.grows.alloc World.grows.refl o
      refine hK _ _ ?_
      rw [hJd]
      exact ⟨W.heap.size, (hf.put (by decide)), (hG.trans (hgA _)), (iq rfl rfl f0), (iq rfl rfl f1), (iq rfl rfl f2), (iq rfl rfl f3), (iq rfl rfl f4), (iq rfl rfl f5), (iq rfl rfl f6), (iq rfl rfl f7), (iq rfl rfl f8), (iq rfl rfl f9), (iq rfl rfl f10), (iq rfl rfl f11), (iq rfl rfl f12), (iq rfl rfl f13), (iq rfl rfl f14), (iq rfl rfl f15), (fun _ => ⟨(iS hn rfl), hG.below.size, (by rw [World.size_alloc]; exact Nat.lt_succ_self _), _, (by rfl), (fun h => (absurd ((hcl 17 16 (by decide) (by kernel_rfl) (iU rfl h)).symm.trans hL) (by decide))), ((World.row_alloc ..).trans (if_pos rfl))⟩), (iw rfl f17), (iq rfl rfl f18), (iq rfl rfl f19)⟩
    · intro L a W hL hd hcl hJ K hK
      rw [hJd] at hJ
      obtain ⟨g8, hB⟩ := hJ
      have hn : a.tmps.size = 122 := hB.1.2.1
      have hgV : World.grows w4 W := World.grows.trans (grD grA) hB.2.1
      have p0 := hB.2.2.1 (hd 0 (by kernel_rfl))
      have p1 := hB.2.2.2.1 (hd 1 (by kernel_rfl))
      have p2 := hB.2.2.2.2.1 (hd 2 (by kernel_rfl))
      have p3 := hB.2.2.2.2.2.1 (hd 3 (by kernel_rfl))
      have p4 := hB.2.2.2.2.2.2.1 (hd 4 (by kernel_rfl))
      have p5 := hB.2.2.2.2.2.2.2.1 (hd 5 (by kernel_rfl))
      have p6 := hB.2.2.2.2.2.2.2.2.1 (hd 6 (by kernel_rfl))
      have p7 := hB.2.2.2.2.2.2.2.2.2.1 (hd 7 (by kernel_rfl))
      have p8 := hB.2.2.2.2.2.2.2.2.2.2.1 (hd 8 (by kernel_rfl))
      have p9 := hB.2.2.2.2.2.2.2.2.2.2.2.1 (hd 9 (by kernel_rfl))
      have p10 := hB.2.2.2.2.2.2.2.2.2.2.2.2.1 (hd 10 (by kernel_rfl))
      have p11 := hB.2.2.2.2.2.2.2.2.2.2.2.2.2.1 (hd 11 (by kernel_rfl))
      have p12 := hB.2.2.2.2.2.2.2.2.2.2.2.2.2.2.1 (hd 12 (by kernel_rfl))
      have p13 := hB.2.2.2.2.2.2.2.2.2.2.2.2.2.2.2.1 (hd 13 (by kernel_rfl))
      obtain ⟨p16, pl16, ps16, pc16, pn16, pu16, pr16⟩ := hB.2.2.2.2.2.2.2.2.2.2.2.2.2.2.2.2.2.2.1 (hd 16 (by kernel_rfl)); have pz16 := row_sz' pr16; have po16 : rowOkW 2 (some (.cells pc16 63)) = true := beq_iff_eq.2 pn16
      have p16r := get_eval p16
      have p13r := get_eval p13
      have HF := Lib.hid (And.intro hL (And.intro hd (And.intro hcl (And.intro hn hB))))
      clear hL hd hcl hn hB
      go_simp
      obtain ⟨hL, hd, hcl, hn, hf, hG, f0, f1, f2, f3, f4, f5, f6, f7, f8, f9, f10, f11, f12, f13, f14, f15, f16, f17, f18, f19⟩ := HF.out
      refine hK _ _ ?_
      rw [hJd]
      exact ⟨g8, hf, (hG.setRow' (Nat.le_trans pl16 (Nat.le_refl _)) _), (iq0 rfl f0), (iq0 rfl f1), (iq0 rfl f2), (iq0 rfl f3), (iq0 rfl f4), (iq0 rfl f5), (iq0 rfl f6), (iq0 rfl f7), (iq0 rfl f8), (iq0 rfl f9), (iq0 rfl f10), (iq0 rfl f11), (iq0 rfl f12), (iq0 rfl f13), (iq0 rfl f14), (iq0 rfl f15), (fun _ => ⟨p16, pl16, (by rw [World.setRow_size']; exact ps16), _, (by first | rfl | (simp [go_sem]; done) | (simp [go_sem, *]; done)), (fun _ => rfl), (by rw [World.row_setRow, if_pos rfl, pr16]; first | done | rfl)⟩), (fun _ => upL_of (hd 16 (by kernel_rfl))), (iq0 rfl f18), (iq0 rfl f19)⟩
    · intro L a W hL hd hcl hJ K hK
      rw [hJd] at hJ
      obtain ⟨g8, hB⟩ := hJ
      have hn : a.tmps.size = 122 := hB.1.2.1
      have hgV : World.grows w4 W := World.grows.trans (grD grA) hB.2.1
      have p0 := hB.2.2.1 (hd 0 (by kernel_rfl))
      have p1 := hB.2.2.2.1 (hd 1 (by kernel_rfl))
      have p2 := hB.2.2.2.2.1 (hd 2 (by kernel_rfl))
      have p3 := hB.2.2.2.2.2.1 (hd 3 (by kernel_rfl))
      have p4 := hB.2.2.2.2.2.2.1 (hd 4 (by kernel_rfl))
      have p5 := hB.2.2.2.2.2.2.2.1 (hd 5 (by kernel_rfl))
      have p6 := hB.2.2.2.2.2.2.2.2.1 (hd 6 (by kernel_rfl))
      have p7 := hB.2.2.2.2.2.2.2.2.2.1 (hd 7 (by kernel_rfl))
      have p8 := hB.2.2.2.2.2.2.2.2.2.2.1 (hd 8 (by kernel_rfl))
      have p9 := hB.2.2.2.2.2.2.2.2.2.2.2.1 (hd 9 (by kernel_rfl))
      have p10 := hB.2.2.2.2.2.2.2.2.2.2.2.2.1 (hd 10 (by kernel_rfl))
      have p11 := hB.2.2.2.2.2.2.2.2.2.2.2.2.2.1 (hd 11 (by kernel_rfl))
      have p12 := hB.2.2.2.2.2.2.2.2.2.2.2.2.2.2.1 (hd 12 (by kernel_rfl))
      have p13 := hB.2.2.2.2.2.2.2.2.2.2.2.2.2.2.2.1 (hd 13 (by kernel_rfl))
      have p14 := hB.2.2.2.2.2.2.2.2.2.2.2.2.2.2.2.2.1 (hd 14 (by kernel_rfl))
      obtain ⟨p16, pl16, ps16, pc16, pn16, pu16, pr16⟩ := hB.2.2.2.2.2.2.2.2.2.2.2.2.2.2.2.2.2.2.1 (hd 16 (by kernel_rfl)); have pz16 := row_sz' pr16; have po16 : rowOkW 2 (some (.cells pc16 63)) = true := beq_iff_eq.2 pn16
      have p14r := get_eval p14
      have r1 := hgV.row_eq zy4.1; rw [y4] at r1; have zr1 := row_sz' r1
      have HF := Lib.hid (And.intro hL (And.intro hd (And.intro hcl (And.intro hn hB))))
      clear hL hd hcl hn hB
      go_simp
      obtain ⟨hL, hd, hcl, hn, hf, hG, f0, f1, f2, f3, f4, f5, f6, f7, f8, f9, f10, f11, f12, f13, f14, f15, f16, f17, f18, f19⟩ := HF.out
      have hgw : W.grows W := World.grows.refl
      refine hK _ _ ?_
      rw [hJd]
      exact ⟨g8, (hf.put (by decide)), (hG.trans hgw), (iq rfl rfl f0), (iq rfl rfl f1), (iq rfl rfl f2), (iq rfl rfl f3), (iq rfl rfl f4), (iq rfl rfl f5), (iq rfl rfl f6), (iq rfl rfl f7), (iq rfl rfl f8), (iq rfl rfl f9), (iq rfl rfl f10), (iq rfl rfl f11), (iq rfl rfl f12), (iq rfl rfl f13), (iq rfl rfl f14), (iq rfl rfl f15), (ia rfl rfl (iU rfl) f16 hgw), (iw rfl f17), (fun _ => (iS hn rfl)), (iq rfl rfl f19)⟩
    · intro L a W hL hd hcl hJ K hK
      rw [hJd] at hJ
      obtain ⟨g8, hB⟩ := hJ
      have hn : a.tmps.size = 122 := hB.1.2.1
      have hgV : World.grows w4 W := World.grows.trans (grD grA) hB.2.1
      have p0 := hB.2.2.1 (hd 0 (by kernel_rfl))
      have p1 := hB.2.2.2.1 (hd 1 (by kernel_rfl))
      have p2 := hB.2.2.2.2.1 (hd 2 (by kernel_rfl))
      have p3 := hB.2.2.2.2.2.1 (hd 3 (by kernel_rfl))
      have p4 := hB.2.2.2.2.2.2.1 (hd 4 (by kernel_rfl))
      have p5 := hB.2.2.2.2.2.2.2.1 (hd 5 (by kernel_rfl))
      have p6 := hB.2.2.2.2.2.2.2.2.1 (hd 6 (by kernel_rfl))
      have p7 := hB.2.2.2.2.2.2.2.2.2.1 (hd 7 (by kernel_rfl))
      have p8 := hB.2.2.2.2.2.2.2.2.2.2.1 (hd 8 (by kernel_rfl))
      have p9 := hB.2.2.2.2.2.2.2.2.2.2.2.1 (hd 9 (by kernel_rfl))
      have p10 := hB.2.2.2.2.2.2.2.2.2.2.2.2.1 (hd 10 (by kernel_rfl))
      have p11 := hB.2.2.2.2.2.2.2.2.2.2.2.2.2.1 (hd 11 (by kernel_rfl))
      have p12 := hB.2.2.2.2.2.2.2.2.2.2.2.2.2.2.1 (hd 12 (by kernel_rfl))
      have p13 := hB.2.2.2.2.2.2.2.2.2.2.2.2.2.2.2.1 (hd 13 (by kernel_rfl))
      have p14 := hB.2.2.2.2.2.2.2.2.2.2.2.2.2.2.2.2.1 (hd 14 (by kernel_rfl))
      have p15 := hB.2.2.2.2.2.2.2.2.2.2.2.2.2.2.2.2.2.1 (hd 15 (by kernel_rfl))
      obtain ⟨p16, pl16, ps16, pc16, pn16, pu16, pr16⟩ := hB.2.2.2.2.2.2.2.2.2.2.2.2.2.2.2.2.2.2.1 (hd 16 (by kernel_rfl)); have pz16 := row_sz' pr16; have po16 : rowOkW 2 (some (.cells pc16 63)) = true := beq_iff_eq.2 pn16
      have p18 := hB.2.2.2.2.2.2.2.2.2.2.2.2.2.2.2.2.2.2.2.2.1 (hd 18 (by kernel_rfl))
      have p15r := get_eval p15
      have r1 := hgV.row_eq zy4.1; rw [y4] at r1; have zr1 := row_sz' r1
      have HF := Lib.hid (And.intro hL (And.intro hd (And.intro hcl (And.intro hn hB))))
      clear hL hd hcl hn hB
      go_simp
      obtain ⟨hL, hd, hcl, hn, hf, hG, f0, f1, f2, f3, f4, f5, f6, f7, f8, f9, f10, f11, f12, f13, f14, f15, f16, f17, f18, f19⟩ := HF.out
      have hgw : W.grows W := World.grows.refl
      refine hK _ _ ?_
      rw [hJd]
      exact ⟨g8, (hf.put (by decide)), (hG.trans hgw), (iq rfl rfl f0), (iq rfl rfl f1), (iq rfl rfl f2), (iq rfl rfl f3), (iq rfl rfl f4), (iq rfl rfl f5), (iq rfl rfl f6), (iq rfl rfl f7), (iq rfl rfl f8), (iq rfl rfl f9), (iq rfl rfl f10), (iq rfl rfl f11), (iq rfl rfl f12), (iq rfl rfl f13), (iq rfl rfl f14), (iq rfl rfl f15), (ia rfl rfl (iU rfl) f16 hgw), (iw rfl f17), (iq rfl rfl f18), (fun _ => (iS hn rfl))⟩
  · intro a w5 hJ
    rw [hJd] at hJ
    obtain ⟨g8, hf, hG, f0, f1, f2, f3, f4, f5, f6, f7, f8, f9, f10, f11, f12, f13, f14, f15, f16, f17, f18, f19⟩ := hJ
    clear hJd
    replace f0 := f0 rfl
    replace f1 := f1 rfl
    replace f2 := f2 rfl
    replace f3 := f3 rfl
    replace f4 := f4 rfl
    replace f5 := f5 rfl
    replace f6 := f6 rfl
    replace f7 := f7 rfl
    replace f8 := f8 rfl
    replace f9 := f9 rfl
    replace f10 := f10 rfl
    replace f11 := f11 rfl
    replace f12 := f12 rfl
    replace f13 := f13 rfl
    replace f14 := f14 rfl
    replace f15 := f15 rfl
    obtain ⟨f16, pl16, ps16, pc16, pn16, pu16, pr16⟩ := f16 rfl; obtain rfl := pu16 rfl
    clear f17
    replace f18 := f18 rfl
    replace f19 := f19 rfl
    have ha := hf.puts [81, 82, 83, 84, 85, 86, 87, 88, 89, 90, 91, 92, 80, 93, 94, 95, 8, 9, 10] _ (by intro d hd; show d < 122; revert d; decide)
    simp only [List.map_cons, List.map_nil, f0, f1, f2, f3, f4, f5, f6, f7, f8, f9, f10, f11, f12, f13, f14, f15, f16, f18, f19] at ha
    clear f0 f1 f2 f3 f4 f5 f6 f7 f8 f9 f10 f11 f12 f13 f14 f15 f16 f18 f19 hf
    subst ha
    have hgV : World.grows w4 w5 := World.grows.trans (by first | (exact World.grows.drew World.grows.refl; done) | (show World.grows _ _; repeat (with_reducible first | assumption | exact grA | apply grB | apply grC | apply grD | refine grE ?_ (by omega) _))) hG
    simp only [putL]
    go_simp
    have y5 := (hgV.row_eq zy4.1).trans y4
    have zy5 := row_sz' y5
    have x5 := (hgV.row_eq zx4.1).trans x4
    have zx5 := row_sz' x5
    have zp := row_sz' pr16
    have hrd5 := HR3.out.grows (gw4.trans hgV)
    have H05 := Lib.hid (fun (W : World) (hg : w5.grows W) => xat0 (hrd5.grows hg))
    have H15 := Lib.hid (fun (W : World) (hg : w5.grows W) => xat1 (hrd5.grows hg))
    have H25 := Lib.hid (fun (W : World) (hg : w5.grows W) => xat2 (hrd5.grows hg))
    rw [hd] at H05
    have HBE := Lib.hid (fun W => xbegins_any (chAt Lc (i + 1)) (chAt Lc (i + 1 + 1)) (chAt Lc (i + 1 + 2)) (chAt_ok HOK.out _) (chAt_ok HOK.out _) W)
    rw [hd, show Beg 41 (chAt Lc (i + 1 + 1)) = false from rfl] at HBE
    have HG5 := Lib.hid (gw4.trans hgV)
    clear hrd5 y4 zy4 x4 zx4 hgV gw4
    go_wp2_with (first | (go_at_call 61; (with_reducible refine (H05.out _ (by repeat (with_reducible first | assumption | exact grA | apply grB | apply grC | apply grD | refine grE ?_ (by omega) _ | refine grF ?_ (by omega) _ _))).mono ?_); rintro e w1 ⟨rfl, x1, rfl⟩) | (go_at_call 61; (with_reducible refine (H15.out _ (by repeat (with_reducible first | assumption | exact grA | apply grB | apply grC | apply grD | refine grE ?_ (by omega) _ | refine grF ?_ (by omega) _ _))).mono ?_); rintro e w1 ⟨rfl, x1, rfl⟩) | (go_at_call 61; (with_reducible refine (H25.out _ (by repeat (with_reducible first | assumption | exact grA | apply grB | apply grC | apply grD | refine grE ?_ (by omega) _ | refine grF ?_ (by omega) _ _))).mono ?_); rintro e w1 ⟨rfl, x1, rfl⟩) | (go_at_call 89; (with_reducible refine (HBE.out _).mono ?_); rintro e w1 ⟨rfl, x1, rfl⟩))
    refine ret_65 (g := b) rfl rfl ?_ rfl ⟨?_, ?_⟩
    · simp [go_sem, x5, zx5]
    · simp [go_sem, x5, zx5]
      exact ⟨rfl, rfl, rfl, rfl, rfl, rfl⟩
    · exact num_on (b := b) gw2 HON.out HG5.out y5 (Nat.le_of_eq hb) (by omega) _ (by repeat (with_reducible first | assumption | exact grA | apply grB | apply grC | apply grD | refine grE ?_ (by omega) _ | refine grF ?_ (by omega) _ _))
set_option maxRecDepth 100000 in
set_option maxHeartbeats 8000000 in
theorem xfigure53e {w0 w : World} {g : Nat} {a : Option Addr} {cap : Nat} {Lc : List Int} {i : Nat} (h : Rd w0 w g a cap Lc i) (hi1 : i + 1 ≤ Lc.length) (hc : chAt Lc i = 53) (hd : chAt Lc (i + 1) = (-1)) :
    Calls Tryz.prog 92 #[.pointer (some ⟨g, 0, none⟩)] w (fun e w' => e = .returned (numTk 5).v ∧ On1 w g a cap Lc.length (i + 1) w') := by
  have x0 := h.row
  have zx0 := row_sz' x0
  have hlen := h.len
  have hle := h.le
  have HRD := Lib.hid h
  have HDG := Lib.hid (fun (W : World) (hg : w.grows W) => xdigits_any (h.grows hg) (by rw [hc]; decide) (by rw [hd]; decide))
  have HOK := Lib.hid h.ok
  have HSL := Lib.hid h.sl
  clear h
  go_enter Tryz.func92, Tryz.ntmps92
  go_upto_region 1 with fail
  refine abs_rows (w := w) (G := fun W => Code.wp _ _ _ _ W) (by repeat (with_reducible first | assumption | exact grA | apply grB | apply grC | apply grD | refine grE ?_ (by omega) _ | refine grF ?_ (by omega) _ _)) [(w.heap.size, .cells #[.int .i64 0, .string ⟨#[]⟩, .int .i64 0, .int .i64 0, .bool false, .bool false] 65)] (by simp [go_sem, *]) ?_
  intro w2 gw2 hl
  simp only [List.forall_mem_cons, List.not_mem_nil, false_implies, implies_true, and_true] at hl
  have x9 := hl
  have zx9 := row_sz' x9
  have hrd := HRD.out.grows gw2
  have H0 := Lib.hid (fun (W : World) (hg : w2.grows W) => xat0 (hrd.grows hg))
  rw [hc] at H0
  have y0 := hrd.row
  have zy0 := row_sz' y0
  have hlt := zx0.1
  have HR2 := Lib.hid hrd
  have HDW := Lib.hid (fun (W : World) (hg : w2.grows W) => HDG.out W (gw2.trans hg))
  clear hrd x0 zx0
  generalize hb : w.heap.size = b at *
  go_upto_region 6 with (first | (go_at_call 61; (with_reducible refine (H0.out _ (by repeat (with_reducible first | assumption | exact grA | apply grB | apply grC | apply grD | refine grE ?_ (by omega) _ | refine grF ?_ (by omega) _ _))).mono ?_); rintro e w1 ⟨rfl, x1, rfl⟩) | (go_at_call 110; go_loud ((with_reducible refine (HDW.out _ (by repeat (with_reducible first | assumption | exact grA | apply grB | apply grC | apply grD | refine grE ?_ (by omega) _ | refine grF ?_ (by omega) _ _))).mono ?_); rintro r w3 ⟨rfl, hon⟩; replace hon := On1.fro (w := w2) hon (by repeat (with_reducible first | assumption | exact grA | apply grB | apply grC | apply grD | refine grE ?_ (by omega) _ | refine grF ?_ (by omega) _ _)))))
  have hrd3 := HR2.out.on hon hi1
  have x93 := (row_growV hon.gb zx9.1 (fun e => by injection e with e; omega)).trans x9
  have zx93 := row_sz' x93
  have y3 := hrd3.row
  have zy3 := row_sz' y3
  have H03 := Lib.hid (fun (W : World) (hg : w3.grows W) => xat0 (hrd3.grows hg))
  have H13 := Lib.hid (fun (W : World) (hg : w3.grows W) => xat1 (hrd3.grows hg))
  have H23 := Lib.hid (fun (W : World) (hg : w3.grows W) => xat2 (hrd3.grows hg))
  rw [hd] at H03
  have HON := Lib.hid hon
  have HR3 := Lib.hid hrd3
  clear y0 zy0 x9 zx9 hrd3 hon
  obtain ⟨gR, off, csR, rfl, hSR, -, kR, rfl, -⟩ := HSL.out.elt (i := i) (x := 53) (by
    have h2 := hc
    unfold chAt at h2
    rw [List.getElem?_eq_getElem (by omega)] at h2 ⊢
    exact congrArg some h2)
  have hcap : Lc.length ≤ cap := HSL.out.bound.2.1
  have HSM := Lib.hid (show SlAt w (fun b => b < g) 1 RuR (.slice (some ⟨gR, off + i, none⟩) 1 (cap - i)) [53] from by
    have h2 := SlAt.mid HSL.out (i := i) (j := i + 1) (by omega) hi1
    rw [Nat.mul_one, show i + 1 - i = 1 by omega] at h2
    have h3 : (Lc.drop i).take 1 = [53] := by
      have h4 := hc
      unfold chAt at h4
      rw [List.getElem?_eq_getElem (by omega)] at h4
      have h5 : Lc[i]'(by omega) = 53 := h4
      rw [List.drop_eq_getElem_cons (by omega), h5]
      rfl
    rw [h3] at h2
    exact h2)
  go_upto_region 18 with ((go_at_call 61; (with_reducible refine (H03.out _ (by repeat (with_reducible first | assumption | exact grA | apply grB | apply grC | apply grD | refine grE ?_ (by omega) _ | refine grF ?_ (by omega) _ _))).mono ?_); rintro e w1 ⟨rfl, x1, rfl⟩))
  rw [show ((i + 1 : Nat) : Int) = (i : Int) + 1 by omega] at y3
  refine abs_rows (w := w3) (G := fun W => Code.wp _ _ _ _ W) (by repeat (with_reducible first | assumption | exact grA | apply grB | apply grC | apply grD | refine grE ?_ (by omega) _ | refine grF ?_ (by omega) _ _)) [(g, .cells #[.slice (some ⟨gR, off, none⟩) Lc.length cap, .int .i64 ((i : Int) + 1)] 100), (b, .cells #[.int .i64 0, .string ⟨#[]⟩, .int .i64 0, .int .i64 0, .bool false, .bool false] 65)] (by simp [go_sem, *]) ?_
  intro w4 gw4 hl
  simp only [List.forall_mem_cons, List.not_mem_nil, false_implies, implies_true, and_true] at hl
  obtain ⟨y4, x4⟩ := hl
  have zy4 := row_sz' y4
  have zx4 := row_sz' x4
  have HTX := Lib.hid (fun (W : World) (hg : w4.grows W) => xtext_any (w := W) (L := [53]) (HSM.out.keep (S' := fun _ => True) (fun q hq hl => ⟨((gw4.trans hg).row_eq (Nat.lt_of_lt_of_le hl (Nat.le_trans gw2.below.size HON.out.gb.size))).trans ((row_growV HON.out.gb (Nat.lt_of_lt_of_le hl gw2.below.size) (fun e => by injection e with e; omega)).trans (gw2.row_eq hl)), trivial⟩) fun _ _ _ h => h) (by decide) (by decide) (fun x hx => by rw [List.mem_singleton.1 hx]; unfold OkC; decide))
  have n1 : ¬ cap = i := by omega
  have n2 : (i : Int) ≤ (i : Int) + 1 := by omega
  have n3 : (i : Int) + 1 ≤ (cap : Int) := by omega
  have n4 : (0 : Int) ≤ (i : Int) := by omega
  have n5 : ((i : Int) + 1).toNat = i + 1 := by omega
  have n6 : i + 1 - i = 1 := by omega
  obtain ⟨J, hJd⟩ : ∃ J : Act → World → (Nat → Bool) → Act → World → Prop, J = (fun a0 w0 L a' W => ∃ (g8 : Nat), Fr a0 [81, 82, 83, 84, 85, 86, 87, 88, 89, 90, 91, 92, 80, 93, 94, 95, 8, 9, 10] a' ∧ w0.grows W ∧ (L 0 = true → a'.tmps.getD 81 undef = .pointer (some ⟨g, 0, none⟩)) ∧ (L 1 = true → a'.tmps.getD 82 undef = .pointer (some ⟨g, 0, none⟩)) ∧ (L 2 = true → a'.tmps.getD 83 undef = .pointer (some ⟨g, 0, none⟩)) ∧ (L 3 = true → a'.tmps.getD 84 undef = .slice (some ⟨gR, off, none⟩) Lc.length cap) ∧ (L 4 = true → a'.tmps.getD 85 undef = .int .i64 i) ∧ (L 5 = true → a'.tmps.getD 86 undef = .pointer (some ⟨g, 0, none⟩)) ∧ (L 6 = true → a'.tmps.getD 87 undef = .pointer (some ⟨g, 0, none⟩)) ∧ (L 7 = true → a'.tmps.getD 88 undef = .pointer (some ⟨g, 1, none⟩)) ∧ (L 8 = true → a'.tmps.getD 89 undef = .int .i64 ((i : Int) + 1)) ∧ (L 9 = true → a'.tmps.getD 90 undef = .slice (some ⟨gR, off + i, none⟩) 1 (cap - i)) ∧ (L 10 = true → a'.tmps.getD 91 undef = .string ⟨#[53]⟩) ∧ (L 11 = true → a'.tmps.getD 92 undef = .tuple #[.agg #[.int .i64 5, .int .i64 1], .bool true, .int .i64 0]) ∧ (L 12 = true → a'.tmps.getD 80 undef = .tuple #[.agg #[.int .i64 5, .int .i64 1], .bool true, .int .i64 0]) ∧ (L 13 = true → a'.tmps.getD 93 undef = .agg #[.int .i64 5, .int .i64 1]) ∧ (L 14 = true → a'.tmps.getD 94 undef = .bool true) ∧ (L 15 = true → a'.tmps.getD 95 undef = .int .i64 0) ∧ (L 16 = true → a'.tmps.getD 8 undef = .pointer (some ⟨g8, 0, none⟩) ∧ w0.heap.size ≤ g8 ∧ g8 < W.heap.size ∧ ∃ cs : Array Value, cs.size = 2 ∧ (L 17 = true → cs = #[.int .i64 5, .int .i64 1]) ∧ W.row g8 = some (.cells cs 63)) ∧ (L 17 = true → L 16 = true) ∧ (L 18 = true → a'.tmps.getD 9 undef = .bool true) ∧ (L 19 = true → a'.tmps.getD 10 undef = .int .i64 0)) := ⟨_, rfl⟩
  refine wp_region_inv_lit (by kernel_rfl) (by kernel_rfl) J ?_ ?_ ?_
  · intro L hL
    rw [hJd]
    exact ⟨0, Fr.refl, World.grows.refl, (iN (hL 0 (by decide))), (iN (hL 1 (by decide))), (iN (hL 2 (by decide))), (iN (hL 3 (by decide))), (iN (hL 4 (by decide))), (iN (hL 5 (by decide))), (iN (hL 6 (by decide))), (iN (hL 7 (by decide))), (iN (hL 8 (by decide))), (iN (hL 9 (by decide))), (iN (hL 10 (by decide))), (iN (hL 11 (by decide))), (iN (hL 12 (by decide))), (iN (hL 13 (by decide))), (iN (hL 14 (by decide))), (iN (hL 15 (by decide))), (iN (hL 16 (by decide))), (iN (hL 17 (by decide))), (iN (hL 18 (by decide))), (iN (hL 19 (by decide)))⟩
  · refine And.intro ?_ (And.intro ?_ (And.intro ?_ (And.intro ?_ (And.intro ?_ (And.intro ?_ (And.intro ?_ (And.intro ?_ (And.intro ?_ (And.intro ?_ (And.intro ?_ (And.intro ?_ (And.intro ?_ (And.intro ?_ (And.intro ?_ (And.intro ?_ (And.intro ?_ (And.intro ?_ (And.intro ?_ (And.intro ?_ trivial)))))))))))))))))))
    · intro L a W hL hd hcl hJ K hK
      rw [hJd] at hJ
      obtain ⟨g8, hB⟩ := hJ
      have hn : a.tmps.size = 122 := hB.1.2.1
      have hgV : World.grows w4 W := World.grows.trans (grD grA) hB.2.1
      have e0 := hB.1.2.2 0 (by decide); have e0r := get_eval e0
      have r1 := hgV.row_eq zy4.1; rw [y4] at r1; have zr1 := row_sz' r1
      have HF := Lib.hid (And.intro hL (And.intro hd (And.intro hcl (And.intro hn hB))))
      clear hL hd hcl hn hB
      go_simp
      obtain ⟨hL, hd, hcl, hn, hf, hG, f0, f1, f2, f3, f4, f5, f6, f7, f8, f9, f10, f11, f12, f13, f14, f15, f16, f17, f18, f19⟩ := HF.out
      have hgw : W.grows W := World.grows.refl
      refine hK _ _ ?_
      rw [hJd]
      exact ⟨g8, (hf.put (by decide)), (hG.trans hgw), (fun _ => (iS hn rfl)), (iq rfl rfl f1), (iq rfl rfl f2), (iq rfl rfl f3), (iq rfl rfl f4), (iq rfl rfl f5), (iq rfl rfl f6), (iq rfl rfl f7), (iq rfl rfl f8), (iq rfl rfl f9), (iq rfl rfl f10), (iq rfl rfl f11), (iq rfl rfl f12), (iq rfl rfl f13), (iq rfl rfl f14), (iq rfl rfl f15), (ia rfl rfl (iU rfl) f16 hgw), (iw rfl f17), (iq rfl rfl f18), (iq rfl rfl f19)⟩
    · intro L a W hL hd hcl hJ K hK
      rw [hJd] at hJ
      obtain ⟨g8, hB⟩ := hJ
      have hn : a.tmps.size = 122 := hB.1.2.1
      have hgV : World.grows w4 W := World.grows.trans (grD grA) hB.2.1
      have p0 := hB.2.2.1 (hd 0 (by kernel_rfl))
      have p0r := get_eval p0
      have r1 := hgV.row_eq zy4.1; rw [y4] at r1; have zr1 := row_sz' r1
      have HF := Lib.hid (And.intro hL (And.intro hd (And.intro hcl (And.intro hn hB))))
      clear hL hd hcl hn hB
      go_simp
      obtain ⟨hL, hd, hcl, hn, hf, hG, f0, f1, f2, f3, f4, f5, f6, f7, f8, f9, f10, f11, f12, f13, f14, f15, f16, f17, f18, f19⟩ := HF.out
      have hgw : W.grows W := World.grows.refl
      refine hK _ _ ?_
      rw [hJd]
      exact ⟨g8, (hf.put (by decide)), (hG.trans hgw), (iq rfl rfl f0), (fun _ => (iS hn rfl)), (iq rfl rfl f2), (iq rfl rfl f3), (iq rfl rfl f4), (iq rfl rfl f5), (iq rfl rfl f6), (iq rfl rfl f7), (iq rfl rfl f8), (iq rfl rfl f9), (iq rfl rfl f10), (iq rfl rfl f11), (iq rfl rfl f12), (iq rfl rfl f13), (iq rfl rfl f14), (iq rfl rfl f15), (ia rfl rfl (iU rfl) f16 hgw), (iw rfl f17), (iq rfl rfl f18), (iq rfl rfl f19)⟩
    · intro L a W hL hd hcl hJ K hK
      rw [hJd] at hJ
      obtain ⟨g8, hB⟩ := hJ
      have hn : a.tmps.size = 122 := hB.1.2.1
      have hgV : World.grows w4 W := World.grows.trans (grD grA) hB.2.1
      have p1 := hB.2.2.2.1 (hd 1 (by kernel_rfl))
      have p1r := get_eval p1
      have r1 := hgV.row_eq zy4.1; rw [y4] at r1; have zr1 := row_sz' r1
      have HF := Lib.hid (And.intro hL (And.intro hd (And.intro hcl (And.intro hn hB))))
      clear hL hd hcl hn hB
      go_simp
      obtain ⟨hL, hd, hcl, hn, hf, hG, f0, f1, f2, f3, f4, f5, f6, f7, f8, f9, f10, f11, f12, f13, f14, f15, f16, f17, f18, f19⟩ := HF.out
      have hgw : W.grows W := World.grows.refl
      refine hK _ _ ?_
      rw [hJd]
      exact ⟨g8, (hf.put (by decide)), (hG.trans hgw), (iq rfl rfl f0), (iq rfl rfl f1), (fun _ => (iS hn rfl)), (iq rfl rfl f3), (iq rfl rfl f4), (iq rfl rfl f5), (iq rfl rfl f6), (iq rfl rfl f7), (iq rfl rfl f8), (iq rfl rfl f9), (iq rfl rfl f10), (iq rfl rfl f11), (iq rfl rfl f12), (iq rfl rfl f13), (iq rfl rfl f14), (iq rfl rfl f15), (ia rfl rfl (iU rfl) f16 hgw), (iw rfl f17), (iq rfl rfl f18), (iq rfl rfl f19)⟩
    · intro L a W hL hd hcl hJ K hK
      rw [hJd] at hJ
      obtain ⟨g8, hB⟩ := hJ
      have hn : a.tmps.size = 122 := hB.1.2.1
      have hgV : World.grows w4 W := World.grows.trans (grD grA) hB.2.1
      have p2 := hB.2.2.2.2.1 (hd 2 (by kernel_rfl))
      have p2r := get_eval p2
      have r1 := hgV.row_eq zy4.1; rw [y4] at r1; have zr1 := row_sz' r1
      have HF := Lib.hid (And.intro hL (And.intro hd (And.intro hcl (And.intro hn hB))))
      clear hL hd hcl hn hB
      go_simp
      obtain ⟨hL, hd, hcl, hn, hf, hG, f0, f1, f2, f3, f4, f5, f6, f7, f8, f9, f10, f11, f12, f13, f14, f15, f16, f17, f18, f19⟩ := HF.out
      have hgw : W.grows W := World.grows.refl
      refine hK _ _ ?_
      rw [hJd]
      exact ⟨g8, (hf.put (by decide)), (hG.trans hgw), (iq rfl rfl f0), (iq rfl rfl f1), (iq rfl rfl f2), (fun _ => (iS hn rfl)), (iq rfl rfl f4), (iq rfl rfl f5), (iq rfl rfl f6), (iq rfl rfl f7), (iq rfl rfl f8), (iq rfl rfl f9), (iq rfl rfl f10), (iq rfl rfl f11), (iq rfl rfl f12), (iq rfl rfl f13), (iq rfl rfl f14), (iq rfl rfl f15), (ia rfl rfl (iU rfl) f16 hgw), (iw rfl f17), (iq rfl rfl f18), (iq rfl rfl f19)⟩
    · intro L a W hL hd hcl hJ K hK
      rw [hJd] at hJ
      obtain ⟨g8, hB⟩ := hJ
      have hn : a.tmps.size = 122 := hB.1.2.1
      have hgV : World.grows w4 W := World.grows.trans (grD grA) hB.2.1
      have e3 := hB.1.2.2 3 (by decide); have e3r := get_eval e3
      have r1 := hgV.row_eq zy4.1; rw [y4] at r1; have zr1 := row_sz' r1
      have HF := Lib.hid (And.intro hL (And.intro hd (And.intro hcl (And.intro hn hB))))
      clear hL hd hcl hn hB
      go_simp
      obtain ⟨hL, hd, hcl, hn, hf, hG, f0, f1, f2, f3, f4, f5, f6, f7, f8, f9, f10, f11, f12, f13, f14, f15, f16, f17, f18, f19⟩ := HF.out
      have hgw : W.grows W := World.grows.refl
      refine hK _ _ ?_
      rw [hJd]
      exact ⟨g8, (hf.put (by decide)), (hG.trans hgw), (iq rfl rfl f0), (iq rfl rfl f1), (iq rfl rfl f2), (iq rfl rfl f3), (fun _ => (iS hn rfl)), (iq rfl rfl f5), (iq rfl rfl f6), (iq rfl rfl f7), (iq rfl rfl f8), (iq rfl rfl f9), (iq rfl rfl f10), (iq rfl rfl f11), (iq rfl rfl f12), (iq rfl rfl f13), (iq rfl rfl f14), (iq rfl rfl f15), (ia rfl rfl (iU rfl) f16 hgw), (iw rfl f17), (iq rfl rfl f18), (iq rfl rfl f19)⟩
    · intro L a W hL hd hcl hJ K hK
      rw [hJd] at hJ
      obtain ⟨g8, hB⟩ := hJ
      have hn : a.tmps.size = 122 := hB.1.2.1
      have hgV : World.grows w4 W := World.grows.trans (grD grA) hB.2.1
      have e0 := hB.1.2.2 0 (by decide); have e0r := get_eval e0
      have r1 := hgV.row_eq zy4.1; rw [y4] at r1; have zr1 := row_sz' r1
      have HF := Lib.hid (And.intro hL (And.intro hd (And.intro hcl (And.intro hn hB))))
      clear hL hd hcl hn hB
      go_simp
      obtain ⟨hL, hd, hcl, hn, hf, hG, f0, f1, f2, f3, f4, f5, f6, f7, f8, f9, f10, f11, f12, f13, f14, f15, f16, f17, f18, f19⟩ := HF.out
      have hgw : W.grows W := World.grows.refl
      refine hK _ _ ?_
      rw [hJd]
      exact ⟨g8, (hf.put (by decide)), (hG.trans hgw), (iq rfl rfl f0), (iq rfl rfl f1), (iq rfl rfl f2), (iq rfl rfl f3), (iq rfl rfl f4), (fun _ => (iS hn rfl)), (iq rfl rfl f6), (iq rfl rfl f7), (iq rfl rfl f8), (iq rfl rfl f9), (iq rfl rfl f10), (iq rfl rfl f11), (iq rfl rfl f12), (iq rfl rfl f13), (iq rfl rfl f14), (iq rfl rfl f15), (ia rfl rfl (iU rfl) f16 hgw), (iw rfl f17), (iq rfl rfl f18), (iq rfl rfl f19)⟩
    · intro L a W hL hd hcl hJ K hK
      rw [hJd] at hJ
      obtain ⟨g8, hB⟩ := hJ
      have hn : a.tmps.size = 122 := hB.1.2.1
      have hgV : World.grows w4 W := World.grows.trans (grD grA) hB.2.1
      have p5 := hB.2.2.2.2.2.2.2.1 (hd 5 (by kernel_rfl))
      have p5r := get_eval p5
      have r1 := hgV.row_eq zy4.1; rw [y4] at r1; have zr1 := row_sz' r1
      have HF := Lib.hid (And.intro hL (And.intro hd (And.intro hcl (And.intro hn hB))))
      clear hL hd hcl hn hB
      go_simp
      obtain ⟨hL, hd, hcl, hn, hf, hG, f0, f1, f2, f3, f4, f5, f6, f7, f8, f9, f10, f11, f12, f13, f14, f15, f16, f17, f18, f19⟩ := HF.out
      have hgw : W.grows W := World.grows.refl
      refine hK _ _ ?_
      rw [hJd]
      exact ⟨g8, (hf.put (by decide)), (hG.trans hgw), (iq rfl rfl f0), (iq rfl rfl f1), (iq rfl rfl f2), (iq rfl rfl f3), (iq rfl rfl f4), (iq rfl rfl f5), (fun _ => (iS hn rfl)), (iq rfl rfl f7), (iq rfl rfl f8), (iq rfl rfl f9), (iq rfl rfl f10), (iq rfl rfl f11), (iq rfl rfl f12), (iq rfl rfl f13), (iq rfl rfl f14), (iq rfl rfl f15), (ia rfl rfl (iU rfl) f16 hgw), (iw rfl f17), (iq rfl rfl f18), (iq rfl rfl f19)⟩
    · intro L a W hL hd hcl hJ K hK
      rw [hJd] at hJ
      obtain ⟨g8, hB⟩ := hJ
      have hn : a.tmps.size = 122 := hB.1.2.1
      have hgV : World.grows w4 W := World.grows.trans (grD grA) hB.2.1
      have p6 := hB.2.2.2.2.2.2.2.2.1 (hd 6 (by kernel_rfl))
      have p6r := get_eval p6
      have r1 := hgV.row_eq zy4.1; rw [y4] at r1; have zr1 := row_sz' r1
      have HF := Lib.hid (And.intro hL (And.intro hd (And.intro hcl (And.intro hn hB))))
      clear hL hd hcl hn hB
      go_simp
      obtain ⟨hL, hd, hcl, hn, hf, hG, f0, f1, f2, f3, f4, f5, f6, f7, f8, f9, f10, f11, f12, f13, f14, f15, f16, f17, f18, f19⟩ := HF.out
      have hgw : W.grows W := World.grows.refl
      refine hK _ _ ?_
      rw [hJd]
      exact ⟨g8, (hf.put (by decide)), (hG.trans hgw), (iq rfl rfl f0), (iq rfl rfl f1), (iq rfl rfl f2), (iq rfl rfl f3), (iq rfl rfl f4), (iq rfl rfl f5), (iq rfl rfl f6), (fun _ => (iS hn rfl)), (iq rfl rfl f8), (iq rfl rfl f9), (iq rfl rfl f10), (iq rfl rfl f11), (iq rfl rfl f12), (iq rfl rfl f13), (iq rfl rfl f14), (iq rfl rfl f15), (ia rfl rfl (iU rfl) f16 hgw), (iw rfl f17), (iq rfl rfl f18), (iq rfl rfl f19)⟩
    · intro L a W hL hd hcl hJ K hK
      rw [hJd] at hJ
      obtain ⟨g8, hB⟩ := hJ
      have hn : a.tmps.size = 122 := hB.1.2.1
      have hgV : World.grows w4 W := World.grows.trans (grD grA) hB.2.1
      have p7 := hB.2.2.2.2.2.2.2.2.2.1 (hd 7 (by kernel_rfl))
      have p7r := get_eval p7
      have r1 := hgV.row_eq zy4.1; rw [y4] at r1; have zr1 := row_sz' r1
      have HF := Lib.hid (And.intro hL (And.intro hd (And.intro hcl (And.intro hn hB))))
      clear hL hd hcl hn hB
      go_simp
      obtain ⟨hL, hd, hcl, hn, hf, hG, f0, f1, f2, f3, f4, f5, f6, f7, f8, f9, f10, f11, f12, f13, f14, f15, f16, f17, f18, f19⟩ := HF.out
      have hgw : W.grows W := World.grows.refl
      refine hK _ _ ?_
      rw [hJd]
      exact ⟨g8, (hf.put (by decide)), (hG.trans hgw), (iq rfl rfl f0), (iq rfl rfl f1), (iq rfl rfl f2), (iq rfl rfl f3), (iq rfl rfl f4), (iq rfl rfl f5), (iq rfl rfl f6), (iq rfl rfl f7), (fun _ => (iS hn rfl)), (iq rfl rfl f9), (iq rfl rfl f10), (iq rfl rfl f11), (iq rfl rfl f12), (iq rfl rfl f13), (iq rfl rfl f14), (iq rfl rfl f15), (ia rfl rfl (iU rfl) f16 hgw), (iw rfl f17), (iq rfl rfl f18), (iq rfl rfl f19)⟩
    · intro L a W hL hd hcl hJ K hK
      rw [hJd] at hJ
      obtain ⟨g8, hB⟩ := hJ
      have hn : a.tmps.size = 122 := hB.1.2.1
      have hgV : World.grows w4 W := World.grows.trans (grD grA) hB.2.1
      have p3 := hB.2.2.2.2.2.1 (hd 3 (by kernel_rfl))
      have p4 := hB.2.2.2.2.2.2.1 (hd 4 (by kernel_rfl))
      have p8 := hB.2.2.2.2.2.2.2.2.2.2.1 (hd 8 (by kernel_rfl))
      have p3r := get_eval p3
      have p4r := get_eval p4
      have p8r := get_eval p8
      have r1 := hgV.row_eq zy4.1; rw [y4] at r1; have zr1 := row_sz' r1
      have HF := Lib.hid (And.intro hL (And.intro hd (And.intro hcl (And.intro hn hB))))
      clear hL hd hcl hn hB
      go_simp
      obtain ⟨hL, hd, hcl, hn, hf, hG, f0, f1, f2, f3, f4, f5, f6, f7, f8, f9, f10, f11, f12, f13, f14, f15, f16, f17, f18, f19⟩ := HF.out
      have hgw : W.grows W := World.grows.refl
      refine hK _ _ ?_
      rw [hJd]
      exact ⟨g8, (hf.put (by decide)), (hG.trans hgw), (iq rfl rfl f0), (iq rfl rfl f1), (iq rfl rfl f2), (iq rfl rfl f3), (iq rfl rfl f4), (iq rfl rfl f5), (iq rfl rfl f6), (iq rfl rfl f7), (iq rfl rfl f8), (fun _ => (iS hn rfl)), (iq rfl rfl f10), (iq rfl rfl f11), (iq rfl rfl f12), (iq rfl rfl f13), (iq rfl rfl f14), (iq rfl rfl f15), (ia rfl rfl (iU rfl) f16 hgw), (iw rfl f17), (iq rfl rfl f18), (iq rfl rfl f19)⟩
    · intro L a W hL hd hcl hJ K hK
      rw [hJd] at hJ
      obtain ⟨g8, hB⟩ := hJ
      have hn : a.tmps.size = 122 := hB.1.2.1
      have hgV : World.grows w4 W := World.grows.trans (grD grA) hB.2.1
      have p9 := hB.2.2.2.2.2.2.2.2.2.2.2.1 (hd 9 (by kernel_rfl))
      have p9r := get_eval p9
      have r1 := hgV.row_eq zy4.1; rw [y4] at r1; have zr1 := row_sz' r1
      have HF := Lib.hid (And.intro hL (And.intro hd (And.intro hcl (And.intro hn hB))))
      clear hL hd hcl hn hB
      go_simp
      (go_at_call 94; (with_reducible refine (HTX.out W hgV).mono ?_); rintro e w9 ⟨rfl, hg9⟩)
      refine ⟨_, rfl, ?_⟩
      obtain ⟨hL, hd, hcl, hn, hf, hG, f0, f1, f2, f3, f4, f5, f6, f7, f8, f9, f10, f11, f12, f13, f14, f15, f16, f17, f18, f19⟩ := HF.out
      have hgw : W.grows w9 := hg9
      refine hK _ _ ?_
      rw [hJd]
      exact ⟨g8, (hf.put (by decide)), (hG.trans hgw), (iq rfl rfl f0), (iq rfl rfl f1), (iq rfl rfl f2), (iq rfl rfl f3), (iq rfl rfl f4), (iq rfl rfl f5), (iq rfl rfl f6), (iq rfl rfl f7), (iq rfl rfl f8), (iq rfl rfl f9), (fun _ => (iS hn rfl)), (iq rfl rfl f11), (iq rfl rfl f12), (iq rfl rfl f13), (iq rfl rfl f14), (iq rfl rfl f15), (ia rfl rfl (iU rfl) f16 hgw), (iw rfl f17), (iq rfl rfl f18), (iq rfl rfl f19)⟩
    · intro L a W hL hd hcl hJ K hK
      rw [hJd] at hJ
      obtain ⟨g8, hB⟩ := hJ
      have hn : a.tmps.size = 122 := hB.1.2.1
      have hgV : World.grows w4 W := World.grows.trans (grD grA) hB.2.1
      have p10 := hB.2.2.2.2.2.2.2.2.2.2.2.2.1 (hd 10 (by kernel_rfl))
      have p10r := get_eval p10
      have r1 := hgV.row_eq zy4.1; rw [y4] at r1; have zr1 := row_sz' r1
      have HF := Lib.hid (And.intro hL (And.intro hd (And.intro hcl (And.intro hn hB))))
      clear hL hd hcl hn hB
      go_simp
      (go_at_call 111; (with_reducible refine (ydec53 W).mono ?_); rintro e w9 ⟨rfl, hg9⟩)
      refine ⟨_, rfl, ?_⟩
      obtain ⟨hL, hd, hcl, hn, hf, hG, f0, f1, f2, f3, f4, f5, f6, f7, f8, f9, f10, f11, f12, f13, f14, f15, f16, f17, f18, f19⟩ := HF.out
      have hgw : W.grows w9 := hg9
      refine hK _ _ ?_
      rw [hJd]
      exact ⟨g8, (hf.put (by decide)), (hG.trans hgw), (iq rfl rfl f0), (iq rfl rfl f1), (iq rfl rfl f2), (iq rfl rfl f3), (iq rfl rfl f4), (iq rfl rfl f5), (iq rfl rfl f6), (iq rfl rfl f7), (iq rfl rfl f8), (iq rfl rfl f9), (iq rfl rfl f10), (fun _ => (iS hn rfl)), (iq rfl rfl f12), (iq rfl rfl f13), (iq rfl rfl f14), (iq rfl rfl f15), (ia rfl rfl (iU rfl) f16 hgw), (iw rfl f17), (iq rfl rfl f18), (iq rfl rfl f19)⟩
    · intro L a W hL hd hcl hJ K hK
      rw [hJd] at hJ
      obtain ⟨g8, hB⟩ := hJ
      have hn : a.tmps.size = 122 := hB.1.2.1
      have hgV : World.grows w4 W := World.grows.trans (grD grA) hB.2.1
      have p11 := hB.2.2.2.2.2.2.2.2.2.2.2.2.2.1 (hd 11 (by kernel_rfl))
      have p11r := get_eval p11
      have r1 := hgV.row_eq zy4.1; rw [y4] at r1; have zr1 := row_sz' r1
      have HF := Lib.hid (And.intro hL (And.intro hd (And.intro hcl (And.intro hn hB))))
      clear hL hd hcl hn hB
      go_simp
      obtain ⟨hL, hd, hcl, hn, hf, hG, f0, f1, f2, f3, f4, f5, f6, f7, f8, f9, f10, f11, f12, f13, f14, f15, f16, f17, f18, f19⟩ := HF.out
      have hgw : W.grows W := World.grows.refl
      refine hK _ _ ?_
      rw [hJd]
      exact ⟨g8, (hf.put (by decide)), (hG.trans hgw), (iq rfl rfl f0), (iq rfl rfl f1), (iq rfl rfl f2), (iq rfl rfl f3), (iq rfl rfl f4), (iq rfl rfl f5), (iq rfl rfl f6), (iq rfl rfl f7), (iq rfl rfl f8), (iq rfl rfl f9), (iq rfl rfl f10), (iq rfl rfl f11), (fun _ => (iS hn rfl)), (iq rfl rfl f13), (iq rfl rfl f14), (iq rfl rfl f15), (ia rfl rfl (iU rfl) f16 hgw), (iw rfl f17), (iq rfl rfl f18), (iq rfl rfl f19)⟩
    · intro L a W hL hd hcl hJ K hK
      rw [hJd] at hJ
      obtain ⟨g8, hB⟩ := hJ
      have hn : a.tmps.size = 122 := hB.1.2.1
      have hgV : World.grows w4 W := World.grows.trans (grD grA) hB.2.1
      have p12 := hB.2.2.2.2.2.2.2.2.2.2.2.2.2.2.1 (hd 12 (by kernel_rfl))
      have p12r := get_eval p12
      have r1 := hgV.row_eq zy4.1; rw [y4] at r1; have zr1 := row_sz' r1
      have HF := Lib.hid (And.intro hL (And.intro hd (And.intro hcl (And.intro hn hB))))
      clear hL hd hcl hn hB
      go_simp
      obtain ⟨hL, hd, hcl, hn, hf, hG, f0, f1, f2, f3, f4, f5, f6, f7, f8, f9, f10, f11, f12, f13, f14, f15, f16, f17, f18, f19⟩ := HF.out
      have hgw : W.grows W := World.grows.refl
      refine hK _ _ ?_
      rw [hJd]
      exact ⟨g8, (hf.put (by decide)), (hG.trans hgw), (iq rfl rfl f0), (iq rfl rfl f1), (iq rfl rfl f2), (iq rfl rfl f3), (iq rfl rfl f4), (iq rfl rfl f5), (iq rfl rfl f6), (iq rfl rfl f7), (iq rfl rfl f8), (iq rfl rfl f9), (iq rfl rfl f10), (iq rfl rfl f11), (iq rfl rfl f12), (fun _ => (iS hn rfl)), (iq rfl rfl f14), (iq rfl rfl f15), (ia rfl rfl (iU rfl) f16 hgw), (iw rfl f17), (iq rfl rfl f18), (iq rfl rfl f19)⟩
    · intro L a W hL hd hcl hJ K hK
      rw [hJd] at hJ
      obtain ⟨g8, hB⟩ := hJ
      have hn : a.tmps.size = 122 := hB.1.2.1
      have hgV : World.grows w4 W := World.grows.trans (grD grA) hB.2.1
      have p12 := hB.2.2.2.2.2.2.2.2.2.2.2.2.2.2.1 (hd 12 (by kernel_rfl))
      have p12r := get_eval p12
      have r1 := hgV.row_eq zy4.1; rw [y4] at r1; have zr1 := row_sz' r1
      have HF := Lib.hid (And.intro hL (And.intro hd (And.intro hcl (And.intro hn hB))))
      clear hL hd hcl hn hB
      go_simp
      obtain ⟨hL, hd, hcl, hn, hf, hG, f0, f1, f2, f3, f4, f5, f6, f7, f8, f9, f10, f11, f12, f13, f14, f15, f16, f17, f18, f19⟩ := HF.out
      have hgw : W.grows W := World.grows.refl
      refine hK _ _ ?_
      rw [hJd]
      exact ⟨g8, (hf.put (by decide)), (hG.trans hgw), (iq rfl rfl f0), (iq rfl rfl f1), (iq rfl rfl f2), (iq rfl rfl f3), (iq rfl rfl f4), (iq rfl rfl f5), (iq rfl rfl f6), (iq rfl rfl f7), (iq rfl rfl f8), (iq rfl rfl f9), (iq rfl rfl f10), (iq rfl rfl f11), (iq rfl rfl f12), (iq rfl rfl f13), (fun _ => (iS hn rfl)), (iq rfl rfl f15), (ia rfl rfl (iU rfl) f16 hgw), (iw rfl f17), (iq rfl rfl f18), (iq rfl rfl f19)⟩
    · intro L a W hL hd hcl hJ K hK
      rw [hJd] at hJ
      obtain ⟨g8, hB⟩ := hJ
      have hn : a.tmps.size = 122 := hB.1.2.1
      have hgV : World.grows w4 W := World.grows.trans (grD grA) hB.2.1
      have p12 := hB.2.2.2.2.2.2.2.2.2.2.2.2.2.2.1 (hd 12 (by kernel_rfl))
      have p12r := get_eval p12
      have r1 := hgV.row_eq zy4.1; rw [y4] at r1; have zr1 := row_sz' r1
      have HF := Lib.hid (And.intro hL (And.intro hd (And.intro hcl (And.intro hn hB))))
      clear hL hd hcl hn hB
      go_simp
      obtain ⟨hL, hd, hcl, hn, hf, hG, f0, f1, f2, f3, f4, f5, f6, f7, f8, f9, f10, f11, f12, f13, f14, f15, f16, f17, f18, f19⟩ := HF.out
      have hgw : W.grows W := World.grows.refl
      refine hK _ _ ?_
      rw [hJd]
      exact ⟨g8, (hf.put (by decide)), (hG.trans hgw), (iq rfl rfl f0), (iq rfl rfl f1), (iq rfl rfl f2), (iq rfl rfl f3), (iq rfl rfl f4), (iq rfl rfl f5), (iq rfl rfl f6), (iq rfl rfl f7), (iq rfl rfl f8), (iq rfl rfl f9), (iq rfl rfl f10), (iq rfl rfl f11), (iq rfl rfl f12), (iq rfl rfl f13), (iq rfl rfl f14), (fun _ => (iS hn rfl)), (ia rfl rfl (iU rfl) f16 hgw), (iw rfl f17), (iq rfl rfl f18), (iq rfl rfl f19)⟩
    · intro L a W hL hd hcl hJ K hK
      rw [hJd] at hJ
      obtain ⟨g8, hB⟩ := hJ
      have hn : a.tmps.size = 122 := hB.1.2.1
      have hgV : World.grows w4 W := World.grows.trans (grD grA) hB.2.1
      have HF := Lib.hid (And.intro hL (And.intro hd (And.intro hcl (And.intro hn hB))))
      clear hL hd hcl hn hB
      go_simp
      obtain ⟨hL, hd, hcl, hn, hf, hG, f0, f1, f2, f3, f4, f5, f6, f7, f8, f9, f10, f11, f12, f13, f14, f15, f16, f17, f18, f19⟩ := HF.out
      have hgA : ∀ o, W.grows (W.alloc o) := fun o => World.grows.alloc World.grows.refl o
      refine hK _ _ ?_
      rw [hJd]
      exact ⟨W.heap.size, (hf.put (by decide)), (hG.trans (hgA _)), (iq rfl rfl f0), (iq rfl rfl f1), (iq rfl rfl f2), (iq rfl rfl f3), (iq rfl rfl f4), (iq rfl rfl f5), (iq rfl rfl f6), (iq rfl rfl f7), (iq rfl rfl f8), (iq rfl rfl f9), (iq rfl rfl f10), (iq rfl rfl f11), (iq rfl rfl f12), (iq rfl rfl f13), (iq rfl rfl f14), (iq rfl rfl f15), (fun _ => ⟨(iS hn rfl), hG.below.size, (by rw [World.size_alloc]; exact Nat.lt_succ_self _), _, (by rfl), (fun h => (absurd ((hcl 17 16 (by decide) (by kernel_rfl) (iU rfl h)).symm.trans hL) (by decide))), ((World.row_alloc ..).trans (if_pos rfl))⟩), (iw rfl f17), (iq rfl rfl f18), (iq rfl rfl f19)⟩
    · intro L a W hL hd hcl hJ K hK
      rw [hJd] at hJ
      obtain ⟨g8, hB⟩ := hJ
      have hn : a.tmps.size = 122 := hB.1.2.1
      have hgV : World.grows w4 W := World.grows.trans (grD grA) hB.2.1
      have p0 := hB.2.2.1 (hd 0 (by kernel_rfl))
      have p1 := hB.2.2.2.1 (hd 1 (by kernel_rfl))
      have p2 := hB.2.2.2.2.1 (hd 2 (by kernel_rfl))
      have p3 := hB.2.2.2.2.2.1 (hd 3 (by kernel_rfl))
      have p4 := hB.2.2.2.2.2.2.1 (hd 4 (by kernel_rfl))
      have p5 := hB.2.2.2.2.2.2.2.1 (hd 5 (by kernel_rfl))
      have p6 := hB.2.2.2.2.2.2.2.2.1 (hd 6 (by kernel_rfl))
      have p7 := hB.2.2.2.2.2.2.2.2.2.1 (hd 7 (by kernel_rfl))
      have p8 := hB.2.2.2.2.2.2.2.2.2.2.1 (hd 8 (by kernel_rfl))
      have p9 := hB.2.2.2.2.2.2.2.2.2.2.2.1 (hd 9 (by kernel_rfl))
      have p10 := hB.2.2.2.2.2.2.2.2.2.2.2.2.1 (hd 10 (by kernel_rfl))
      have p11 := hB.2.2.2.2.2.2.2.2.2.2.2.2.2.1 (hd 11 (by kernel_rfl))
      have p12 := hB.2.2.2.2.2.2.2.2.2.2.2.2.2.2.1 (hd 12 (by kernel_rfl))
      have p13 := hB.2.2.2.2.2.2.2.2.2.2.2.2.2.2.2.1 (hd 13 (by kernel_rfl))
      obtain ⟨p16, pl16, ps16, pc16, pn16, pu16, pr16⟩ := hB.2.2.2.2.2.2.2.2.2.2.2.2.2.2.2.2.2.2.1 (hd 16 (by kernel_rfl)); have pz16 := row_sz' pr16; have po16 : rowOkW 2 (some (.cells pc16 63)) = true := beq_iff_eq.2 pn16
      have p16r := get_eval p16
      have p13r := get_eval p13
      have HF := Lib.hid (And.intro hL (And.intro hd (And.intro hcl (And.intro hn hB))))
      clear hL hd hcl hn hB
      go_simp
      obtain ⟨hL, hd, hcl, hn, hf, hG, f0, f1, f2, f3, f4, f5, f6, f7, f8, f9, f10, f11, f12, f13, f14, f15, f16, f17, f18, f19⟩ := HF.out
      refine hK _ _ ?_
      rw [hJd]
      exact ⟨g8, hf, (hG.setRow' (Nat.le_trans pl16 (Nat.le_refl _)) _), (iq0 rfl f0), (iq0 rfl f1), (iq0 rfl f2), (iq0 rfl f3), (iq0 rfl f4), (iq0 rfl f5), (iq0 rfl f6), (iq0 rfl f7), (iq0 rfl f8), (iq0 rfl f9), (iq0 rfl f10), (iq0 rfl f11), (iq0 rfl f12), (iq0 rfl f13), (iq0 rfl f14), (iq0 rfl f15), (fun _ => ⟨p16, pl16, (by rw [World.setRow_size']; exact ps16), _, (by first | rfl | (simp [go_sem]; done) | (simp [go_sem, *]; done)), (fun _ => rfl), (by rw [World.row_setRow, if_pos rfl, pr16]; first | done | rfl)⟩), (fun _ => upL_of (hd 16 (by kernel_rfl))), (iq0 rfl f18), (iq0 rfl f19)⟩
    · intro L a W hL hd hcl hJ K hK
      rw [hJd] at hJ
      obtain ⟨g8, hB⟩ := hJ
      have hn : a.tmps.size = 122 := hB.1.2.1
      have hgV : World.grows w4 W := World.grows.trans (grD grA) hB.2.1
      have p0 := hB.2.2.1 (hd 0 (by kernel_rfl))
      have p1 := hB.2.2.2.1 (hd 1 (by kernel_rfl))
      have p2 := hB.2.2.2.2.1 (hd 2 (by kernel_rfl))
      have p3 := hB.2.2.2.2.2.1 (hd 3 (by kernel_rfl))
      have p4 := hB.2.2.2.2.2.2.1 (hd 4 (by kernel_rfl))
      have p5 := hB.2.2.2.2.2.2.2.1 (hd 5 (by kernel_rfl))
      have p6 := hB.2.2.2.2.2.2.2.2.1 (hd 6 (by kernel_rfl))
      have p7 := hB.2.2.2.2.2.2.2.2.2.1 (hd 7 (by kernel_rfl))
      have p8 := hB.2.2.2.2.2.2.2.2.2.2.1 (hd 8 (by kernel_rfl))
      have p9 := hB.2.2.2.2.2.2.2.2.2.2.2.1 (hd 9 (by kernel_rfl))
      have p10 := hB.2.2.2.2.2.2.2.2.2.2.2.2.1 (hd 10 (by kernel_rfl))
      have p11 := hB.2.2.2.2.2.2.2.2.2.2.2.2.2.1 (hd 11 (by kernel_rfl))
      have p12 := hB.2.2.2.2.2.2.2.2.2.2.2.2.2.2.1 (hd 12 (by kernel_rfl))
      have p13 := hB.2.2.2.2.2.2.2.2.2.2.2.2.2.2.2.1 (hd 13 (by kernel_rfl))
      have p14 := hB.2.2.2.2.2.2.2.2.2.2.2.2.2.2.2.2.1 (hd 14 (by kernel_rfl))
      obtain ⟨p16, pl16, ps16, pc16, pn16, pu16, pr16⟩ := hB.2.2.2.2.2.2.2.2.2.2.2.2.2.2.2.2.2.2.1 (hd 16 (by kernel_rfl)); have pz16 := row_sz' pr16; have po16 : rowOkW 2 (some (.cells pc16 63)) = true := beq_iff_eq.2 pn16
      have p14r := get_eval p14
      have r1 := hgV.row_eq zy4.1; rw [y4] at r1; have zr1 := row_sz' r1
      have HF := Lib.hid (And.intro hL (And.intro hd (And.intro hcl (And.intro hn hB))))
      clear hL hd hcl hn hB
      go_simp
      obtain ⟨hL, hd, hcl, hn, hf, hG, f0, f1, f2, f3, f4, f5, f6, f7, f8, f9, f10, f11, f12, f13, f14, f15, f16, f17, f18, f19⟩ := HF.out
      have hgw : W.grows W := World.grows.refl
      refine hK _ _ ?_
      rw [hJd]
      exact ⟨g8, (hf.put (by decide)), (hG.trans hgw), (iq rfl rfl f0), (iq rfl rfl f1), (iq rfl rfl f2), (iq rfl rfl f3), (iq rfl rfl f4), (iq rfl rfl f5), (iq rfl rfl f6), (iq rfl rfl f7), (iq rfl rfl f8), (iq rfl rfl f9), (iq rfl rfl f10), (iq rfl rfl f11), (iq rfl rfl f12), (iq rfl rfl f13), (iq rfl rfl f14), (iq rfl rfl f15), (ia rfl rfl (iU rfl) f16 hgw), (iw rfl f17), (fun _ => (iS hn rfl)), (iq rfl rfl f19)⟩
    · intro L a W hL hd hcl hJ K hK
      rw [hJd] at hJ
      obtain ⟨g8, hB⟩ := hJ
      have hn : a.tmps.size = 122 := hB.1.2.1
      have hgV : World.grows w4 W := World.grows.trans (grD grA) hB.2.1
      have p0 := hB.2.2.1 (hd 0 (by kernel_rfl))
      have p1 := hB.2.2.2.1 (hd 1 (by kernel_rfl))
      have p2 := hB.2.2.2.2.1 (hd 2 (by kernel_rfl))
      have p3 := hB.2.2.2.2.2.1 (hd 3 (by kernel_rfl))
      have p4 := hB.2.2.2.2.2.2.1 (hd 4 (by kernel_rfl))
      have p5 := hB.2.2.2.2.2.2.2.1 (hd 5 (by kernel_rfl))
      have p6 := hB.2.2.2.2.2.2.2.2.1 (hd 6 (by kernel_rfl))
      have p7 := hB.2.2.2.2.2.2.2.2.2.1 (hd 7 (by kernel_rfl))
      have p8 := hB.2.2.2.2.2.2.2.2.2.2.1 (hd 8 (by kernel_rfl))
      have p9 := hB.2.2.2.2.2.2.2.2.2.2.2.1 (hd 9 (by kernel_rfl))
      have p10 := hB.2.2.2.2.2.2.2.2.2.2.2.2.1 (hd 10 (by kernel_rfl))
      have p11 := hB.2.2.2.2.2.2.2.2.2.2.2.2.2.1 (hd 11 (by kernel_rfl))
      have p12 := hB.2.2.2.2.2.2.2.2.2.2.2.2.2.2.1 (hd 12 (by kernel_rfl))
      have p13 := hB.2.2.2.2.2.2.2.2.2.2.2.2.2.2.2.1 (hd 13 (by kernel_rfl))
      have p14 := hB.2.2.2.2.2.2.2.2.2.2.2.2.2.2.2.2.1 (hd 14 (by kernel_rfl))
      have p15 := hB.2.2.2.2.2.2.2.2.2.2.2.2.2.2.2.2.2.1 (hd 15 (by kernel_rfl))
      obtain ⟨p16, pl16, ps16, pc16, pn16, pu16, pr16⟩ := hB.2.2.2.2.2.2.2.2.2.2.2.2.2.2.2.2.2.2.1 (hd 16 (by kernel_rfl)); have pz16 := row_sz' pr16; have po16 : rowOkW 2 (some (.cells pc16 63)) = true := beq_iff_eq.2 pn16
      have p18 := hB.2.2.2.2.2.2.2.2.2.2.2.2.2.2.2.2.2.2.2.2.1 (hd 18 (by kernel_rfl))
      have p15r := get_eval p15
      have r1 := hgV.row_eq zy4.1; rw [y4] at r1; have zr1 := row_sz' r1
      have HF := Lib.hid (And.intro hL (And.intro hd (And.intro hcl (And.intro hn hB))))
      clear hL hd hcl hn hB
      go_simp
      obtain ⟨hL, hd, hcl, hn, hf, hG, f0, f1, f2, f3, f4, f5, f6, f7, f8, f9, f10, f11, f12, f13, f14, f15, f16, f17, f18, f19⟩ := HF.out
      have hgw : W.grows W := World.grows.refl
      refine hK _ _ ?_
      rw [hJd]
      exact ⟨g8, (hf.put (by decide)), (hG.trans hgw), (iq rfl rfl f0), (iq rfl rfl f1), (iq rfl rfl f2), (iq rfl rfl f3), (iq rfl rfl f4), (iq rfl rfl f5), (iq rfl rfl f6), (iq rfl rfl f7), (iq rfl rfl f8), (iq rfl rfl f9), (iq rfl rfl f10), (iq rfl rfl f11), (iq rfl rfl f12), (iq rfl rfl f13), (iq rfl rfl f14), (iq rfl rfl f15), (ia rfl rfl (iU rfl) f16 hgw), (iw rfl f17), (iq rfl rfl f18), (fun _ => (iS hn rfl))⟩
  · intro a w5 hJ
    rw [hJd] at hJ
    obtain ⟨g8, hf, hG, f0, f1, f2, f3, f4, f5, f6, f7, f8, f9, f10, f11, f12, f13, f14, f15, f16, f17, f18, f19⟩ := hJ
    clear hJd
    replace f0 := f0 rfl
    replace f1 := f1 rfl
    replace f2 := f2 rfl
    replace f3 := f3 rfl
    replace f4 := f4 rfl
    replace f5 := f5 rfl
    replace f6 := f6 rfl
    replace f7 := f7 rfl
    replace f8 := f8 rfl
    replace f9 := f9 rfl
    replace f10 := f10 rfl
    replace f11 := f11 rfl
    replace f12 := f12 rfl
    replace f13 := f13 rfl
    replace f14 := f14 rfl
    replace f15 := f15 rfl
    obtain ⟨f16, pl16, ps16, pc16, pn16, pu16, pr16⟩ := f16 rfl; obtain rfl := pu16 rfl
    clear f17
    replace f18 := f18 rfl
    replace f19 := f19 rfl
    have ha := hf.puts [81, 82, 83, 84, 85, 86, 87, 88, 89, 90, 91, 92, 80, 93, 94, 95, 8, 9, 10] _ (by intro d hd; show d < 122; revert d; decide)
    simp only [List.map_cons, List.map_nil, f0, f1, f2, f3, f4, f5, f6, f7, f8, f9, f10, f11, f12, f13, f14, f15, f16, f18, f19] at ha
    clear f0 f1 f2 f3 f4 f5 f6 f7 f8 f9 f10 f11 f12 f13 f14 f15 f16 f18 f19 hf
    subst ha
    have hgV : World.grows w4 w5 := World.grows.trans (by first | (exact World.grows.drew World.grows.refl; done) | (show World.grows _ _; repeat (with_reducible first | assumption | exact grA | apply grB | apply grC | apply grD | refine grE ?_ (by omega) _))) hG
    simp only [putL]
    go_simp
    have y5 := (hgV.row_eq zy4.1).trans y4
    have zy5 := row_sz' y5
    have x5 := (hgV.row_eq zx4.1).trans x4
    have zx5 := row_sz' x5
    have zp := row_sz' pr16
    have hrd5 := HR3.out.grows (gw4.trans hgV)
    have H05 := Lib.hid (fun (W : World) (hg : w5.grows W) => xat0 (hrd5.grows hg))
    have H15 := Lib.hid (fun (W : World) (hg : w5.grows W) => xat1 (hrd5.grows hg))
    have H25 := Lib.hid (fun (W : World) (hg : w5.grows W) => xat2 (hrd5.grows hg))
    rw [hd] at H05
    have HBE := Lib.hid (fun W => xbegins_any (chAt Lc (i + 1)) (chAt Lc (i + 1 + 1)) (chAt Lc (i + 1 + 2)) (chAt_ok HOK.out _) (chAt_ok HOK.out _) W)
    rw [hd, show Beg (-1) (chAt Lc (i + 1 + 1)) = false from rfl] at HBE
    have HG5 := Lib.hid (gw4.trans hgV)
    clear hrd5 y4 zy4 x4 zx4 hgV gw4
    go_wp2_with (first | (go_at_call 61; (with_reducible refine (H05.out _ (by repeat (with_reducible first | assumption | exact grA | apply grB | apply grC | apply grD | refine grE ?_ (by omega) _ | refine grF ?_ (by omega) _ _))).mono ?_); rintro e w1 ⟨rfl, x1, rfl⟩) | (go_at_call 61; (with_reducible refine (H15.out _ (by repeat (with_reducible first | assumption | exact grA | apply grB | apply grC | apply grD | refine grE ?_ (by omega) _ | refine grF ?_ (by omega) _ _))).mono ?_); rintro e w1 ⟨rfl, x1, rfl⟩) | (go_at_call 61; (with_reducible refine (H25.out _ (by repeat (with_reducible first | assumption | exact grA | apply grB | apply grC | apply grD | refine grE ?_ (by omega) _ | refine grF ?_ (by omega) _ _))).mono ?_); rintro e w1 ⟨rfl, x1, rfl⟩) | (go_at_call 89; (with_reducible refine (HBE.out _).mono ?_); rintro e w1 ⟨rfl, x1, rfl⟩))
    refine ret_65 (g := b) rfl rfl ?_ rfl ⟨?_, ?_⟩
    · simp [go_sem, x5, zx5]
    · simp [go_sem, x5, zx5]
      exact ⟨rfl, rfl, rfl, rfl, rfl, rfl⟩
    · exact num_on (b := b) gw2 HON.out HG5.out y5 (Nat.le_of_eq hb) (by omega) _ (by repeat (with_reducible first | assumption | exact grA | apply grB | apply grC | apply grD | refine grE ?_ (by omega) _ | refine grF ?_ (by omega) _ _))
end Go.Proofs.YthcaphoejplecaaGreatDoor

/- WALKS over jalousieref3, the law: the tokens of a text that may hold a number of one digit. No condition but the class of characters and the table of kinds. -/
namespace Go.Proofs.YthcaphoejplecaaGreatDoor
open Go.RowKit
set_option maxRecDepth 100000 in
set_option maxHeartbeats 8000000 in
theorem xnum49p {w0 w : World} {g : Nat} {a : Option Addr} {cap : Nat} {L : List Int} {i : Nat} (h : Rd w0 w g a cap L i) (hc : chAt L i = 49) (hd : chAt L (i + 1) = 41) :
    Calls Tryz.prog 62 #[.pointer (some ⟨g, 0, none⟩)] w (fun e w' => e = .returned (numTk 1).v ∧ On1 w g a cap L.length (i + 1) w') := by
  have hi1 : i + 1 ≤ L.length := by
    by_cases hh : L.length ≤ i
    · rw [chAt_end hh] at hc; exact absurd hc (by decide)
    · omega
  have HFG := Lib.hid (fun (W : World) (hg : w.grows W) => xfigure49p (h.grows hg) hi1 hc hd)
  have k0 := chAt_ok h.ok i
  have k1 := chAt_ok h.ok (i + 1)
  have k2 := chAt_ok h.ok (i + 2)
  rw [hc] at k0
  rw [hd] at k1
  have x0 := h.row
  have zx0 := row_sz' x0
  have hlen := h.len
  have HRD := Lib.hid h
  go_enter Tryz.func62, Tryz.ntmps62
  go_upto_region 1 with fail
  refine abs_rows (w := w) (G := fun W => Code.wp _ _ _ _ W) (by repeat (with_reducible first | assumption | exact grA | apply grB | apply grC | apply grD | refine grE ?_ (by omega) _ | refine grF ?_ (by omega) _ _)) [(w.heap.size, .cells #[.int .i64 0, .string ⟨#[]⟩, .int .i64 0, .int .i64 0, .bool false, .bool false] 65)] (by simp [go_sem, *]) ?_
  intro w2 gw2 hl
  simp only [List.forall_mem_cons, List.not_mem_nil, false_implies, implies_true, and_true] at hl
  have x9 := hl
  have zx9 := row_sz' x9
  have hrd := HRD.out.grows gw2
  have H0 := Lib.hid (fun (W : World) (hg : w2.grows W) => xat0 (hrd.grows hg))
  have H1 := Lib.hid (fun (W : World) (hg : w2.grows W) => xat1 (hrd.grows hg))
  have H2 := Lib.hid (fun (W : World) (hg : w2.grows W) => xat2 (hrd.grows hg))
  have H3 := Lib.hid (fun (W : World) (hg : w2.grows W) => xat3 (hrd.grows hg))
  have hlt := zx0.1
  have y0 := hrd.row
  have HR2 := Lib.hid hrd
  clear hrd x0 zx0 h
  generalize hb : w.heap.size = b at *
  rw [hc] at H0
  rw [hd] at H1
  clear hc hd
  generalize chAt L (i + 2) = e at *
  have HNU := Lib.hid (fun W => xnumber_any 49 41 e k0 k1 W)
  rw [show (if (49 : Int) = 45 then digC 41 else digC 49) = true from by decide] at HNU
  have HBL := Lib.hid (fun W => xblank_any 49 (by decide) (by decide) W)
  rw [show blaC 49 = false from by decide] at HBL
  have HSG := Lib.hid (fun j (hj : j < 9) => sgl_ne 49 hj (by decide))
  have HFW := Lib.hid (fun (W : World) (hg : w2.grows W) => HFG.out W (gw2.trans hg))
  clear k0 k1 k2
  go_wp2_with (first | (go_at_call 61; (with_reducible refine (H0.out _ (by repeat (with_reducible first | assumption | exact grA | apply grB | apply grC | apply grD | refine grE ?_ (by omega) _ | refine grF ?_ (by omega) _ _))).mono ?_); rintro e w1 ⟨rfl, x1, rfl⟩) | (go_at_call 61; (with_reducible refine (H1.out _ (by repeat (with_reducible first | assumption | exact grA | apply grB | apply grC | apply grD | refine grE ?_ (by omega) _ | refine grF ?_ (by omega) _ _))).mono ?_); rintro e w1 ⟨rfl, x1, rfl⟩) | (go_at_call 61; (with_reducible refine (H2.out _ (by repeat (with_reducible first | assumption | exact grA | apply grB | apply grC | apply grD | refine grE ?_ (by omega) _ | refine grF ?_ (by omega) _ _))).mono ?_); rintro e w1 ⟨rfl, x1, rfl⟩))
  go_loopg [14] 9 (fun gn v14 wj => ∃ j : Nat, Hid (gn + j = 9) ∧ v14 = .int .i64 j ∧ w2.grows wj)
  case atStart => exact ⟨0, Lib.hid (by omega), by go_num, (by repeat (with_reducible first | assumption | exact grA | apply grB | apply grC | apply grD | refine grE ?_ (by omega) _ | refine grF ?_ (by omega) _ _))⟩
  case round =>
    obtain ⟨j, HQ, rfl, hgj⟩ := hrel
    have hq := HQ.out
    by_cases hlt : j < 9
    · have i1 : (0 : Int) ≤ (j : Int) := by omega
      have i2 : (j : Int) < 9 := by omega
      obtain ⟨q, hq1, hq2⟩ := HSG.out j hlt
      have iw : IntKind.i64.wrap ((j : Int) + 1) = (j : Int) + 1 := by rw [IntKind.wrap_i64]; omega
      go_wp2_with fail
      go_roundg (8 - j)
      case measure => omega
      case rel => exact ⟨j + 1, Lib.hid (by omega), by go_num, hgj.trans (by repeat (with_reducible first | assumption | exact grA | apply grB | apply grC | apply grD | refine grE ?_ (by omega) _ | refine grF ?_ (by omega) _ _))⟩
    · have i2 : ¬ (j : Int) < 9 := by omega
      have zr9 := (hgj.row_eq zx9.1).trans x9
      have zz9 := row_sz' zr9
      go_wp2_with (first | (go_at_call 84; (with_reducible refine (HBL.out _).mono ?_); rintro e w1 ⟨rfl, x1, rfl⟩) | (go_at_call 91; (with_reducible refine (HNU.out _).mono ?_); rintro e w1 ⟨rfl, x1, rfl⟩) | (go_at_call 92; go_loud ((with_reducible refine (HFW.out _ (hgj.trans (by repeat (with_reducible first | assumption | exact grA | apply grB | apply grC | apply grD | refine grE ?_ (by omega) _ | refine grF ?_ (by omega) _ _)))).mono ?_); rintro r w5 ⟨rfl, hon⟩; replace hon := On1.fro (w := wr) hon (by repeat (with_reducible first | assumption | exact grA | apply grB | apply grC | apply grD | refine grE ?_ (by omega) _ | refine grF ?_ (by omega) _ _)); have v9 := (row_growV hon.gb zz9.1 (fun e => by injection e with e; omega)).trans zr9; have zv9 := row_sz' v9; rw [show (numTk 1).v = .agg #[.int .i64 10, .string ⟨#[]⟩, .int .i64 1, .int .i64 1, .bool true, .bool false] from rfl])))
      refine ret_65 (g := b) rfl rfl ?_ rfl ⟨?_, ?_⟩
      · simp [go_sem, v9, zv9]
      · simp [go_sem, v9, zv9]
        exact ⟨rfl, rfl, rfl, rfl, rfl, rfl⟩
      · exact num_on (b := b) (gw2.trans hgj) hon World.grows.refl hon.row (Nat.le_of_eq hb) (by omega) _ (by repeat (with_reducible first | assumption | exact grA | apply grB | apply grC | apply grD | refine grE ?_ (by omega) _ | refine grF ?_ (by omega) _ _))
set_option maxRecDepth 100000 in
set_option maxHeartbeats 8000000 in
theorem xnum53e {w0 w : World} {g : Nat} {a : Option Addr} {cap : Nat} {L : List Int} {i : Nat} (h : Rd w0 w g a cap L i) (hc : chAt L i = 53) (hd : chAt L (i + 1) = (-1)) :
    Calls Tryz.prog 62 #[.pointer (some ⟨g, 0, none⟩)] w (fun e w' => e = .returned (numTk 5).v ∧ On1 w g a cap L.length (i + 1) w') := by
  have hi1 : i + 1 ≤ L.length := by
    by_cases hh : L.length ≤ i
    · rw [chAt_end hh] at hc; exact absurd hc (by decide)
    · omega
  have HFG := Lib.hid (fun (W : World) (hg : w.grows W) => xfigure53e (h.grows hg) hi1 hc hd)
  have k0 := chAt_ok h.ok i
  have k1 := chAt_ok h.ok (i + 1)
  have k2 := chAt_ok h.ok (i + 2)
  rw [hc] at k0
  rw [hd] at k1
  have x0 := h.row
  have zx0 := row_sz' x0
  have hlen := h.len
  have HRD := Lib.hid h
  go_enter Tryz.func62, Tryz.ntmps62
  go_upto_region 1 with fail
  refine abs_rows (w := w) (G := fun W => Code.wp _ _ _ _ W) (by repeat (with_reducible first | assumption | exact grA | apply grB | apply grC | apply grD | refine grE ?_ (by omega) _ | refine grF ?_ (by omega) _ _)) [(w.heap.size, .cells #[.int .i64 0, .string ⟨#[]⟩, .int .i64 0, .int .i64 0, .bool false, .bool false] 65)] (by simp [go_sem, *]) ?_
  intro w2 gw2 hl
  simp only [List.forall_mem_cons, List.not_mem_nil, false_implies, implies_true, and_true] at hl
  have x9 := hl
  have zx9 := row_sz' x9
  have hrd := HRD.out.grows gw2
  have H0 := Lib.hid (fun (W : World) (hg : w2.grows W) => xat0 (hrd.grows hg))
  have H1 := Lib.hid (fun (W : World) (hg : w2.grows W) => xat1 (hrd.grows hg))
  have H2 := Lib.hid (fun (W : World) (hg : w2.grows W) => xat2 (hrd.grows hg))
  have H3 := Lib.hid (fun (W : World) (hg : w2.grows W) => xat3 (hrd.grows hg))
  have hlt := zx0.1
  have y0 := hrd.row
  have HR2 := Lib.hid hrd
  clear hrd x0 zx0 h
  generalize hb : w.heap.size = b at *
  rw [hc] at H0
  rw [hd] at H1
  clear hc hd
  generalize chAt L (i + 2) = e at *
  have HNU := Lib.hid (fun W => xnumber_any 53 (-1) e k0 k1 W)
  rw [show (if (53 : Int) = 45 then digC (-1) else digC 53) = true from by decide] at HNU
  have HBL := Lib.hid (fun W => xblank_any 53 (by decide) (by decide) W)
  rw [show blaC 53 = false from by decide] at HBL
  have HSG := Lib.hid (fun j (hj : j < 9) => sgl_ne 53 hj (by decide))
  have HFW := Lib.hid (fun (W : World) (hg : w2.grows W) => HFG.out W (gw2.trans hg))
  clear k0 k1 k2
  go_wp2_with (first | (go_at_call 61; (with_reducible refine (H0.out _ (by repeat (with_reducible first | assumption | exact grA | apply grB | apply grC | apply grD | refine grE ?_ (by omega) _ | refine grF ?_ (by omega) _ _))).mono ?_); rintro e w1 ⟨rfl, x1, rfl⟩) | (go_at_call 61; (with_reducible refine (H1.out _ (by repeat (with_reducible first | assumption | exact grA | apply grB | apply grC | apply grD | refine grE ?_ (by omega) _ | refine grF ?_ (by omega) _ _))).mono ?_); rintro e w1 ⟨rfl, x1, rfl⟩) | (go_at_call 61; (with_reducible refine (H2.out _ (by repeat (with_reducible first | assumption | exact grA | apply grB | apply grC | apply grD | refine grE ?_ (by omega) _ | refine grF ?_ (by omega) _ _))).mono ?_); rintro e w1 ⟨rfl, x1, rfl⟩))
  go_loopg [14] 9 (fun gn v14 wj => ∃ j : Nat, Hid (gn + j = 9) ∧ v14 = .int .i64 j ∧ w2.grows wj)
  case atStart => exact ⟨0, Lib.hid (by omega), by go_num, (by repeat (with_reducible first | assumption | exact grA | apply grB | apply grC | apply grD | refine grE ?_ (by omega) _ | refine grF ?_ (by omega) _ _))⟩
  case round =>
    obtain ⟨j, HQ, rfl, hgj⟩ := hrel
    have hq := HQ.out
    by_cases hlt : j < 9
    · have i1 : (0 : Int) ≤ (j : Int) := by omega
      have i2 : (j : Int) < 9 := by omega
      obtain ⟨q, hq1, hq2⟩ := HSG.out j hlt
      have iw : IntKind.i64.wrap ((j : Int) + 1) = (j : Int) + 1 := by rw [IntKind.wrap_i64]; omega
      go_wp2_with fail
      go_roundg (8 - j)
      case measure => omega
      case rel => exact ⟨j + 1, Lib.hid (by omega), by go_num, hgj.trans (by repeat (with_reducible first | assumption | exact grA | apply grB | apply grC | apply grD | refine grE ?_ (by omega) _ | refine grF ?_ (by omega) _ _))⟩
    · have i2 : ¬ (j : Int) < 9 := by omega
      have zr9 := (hgj.row_eq zx9.1).trans x9
      have zz9 := row_sz' zr9
      go_wp2_with (first | (go_at_call 84; (with_reducible refine (HBL.out _).mono ?_); rintro e w1 ⟨rfl, x1, rfl⟩) | (go_at_call 91; (with_reducible refine (HNU.out _).mono ?_); rintro e w1 ⟨rfl, x1, rfl⟩) | (go_at_call 92; go_loud ((with_reducible refine (HFW.out _ (hgj.trans (by repeat (with_reducible first | assumption | exact grA | apply grB | apply grC | apply grD | refine grE ?_ (by omega) _ | refine grF ?_ (by omega) _ _)))).mono ?_); rintro r w5 ⟨rfl, hon⟩; replace hon := On1.fro (w := wr) hon (by repeat (with_reducible first | assumption | exact grA | apply grB | apply grC | apply grD | refine grE ?_ (by omega) _ | refine grF ?_ (by omega) _ _)); have v9 := (row_growV hon.gb zz9.1 (fun e => by injection e with e; omega)).trans zr9; have zv9 := row_sz' v9; rw [show (numTk 5).v = .agg #[.int .i64 10, .string ⟨#[]⟩, .int .i64 5, .int .i64 1, .bool true, .bool false] from rfl])))
      refine ret_65 (g := b) rfl rfl ?_ rfl ⟨?_, ?_⟩
      · simp [go_sem, v9, zv9]
      · simp [go_sem, v9, zv9]
        exact ⟨rfl, rfl, rfl, rfl, rfl, rfl⟩
      · exact num_on (b := b) (gw2.trans hgj) hon World.grows.refl hon.row (Nat.le_of_eq hb) (by omega) _ (by repeat (with_reducible first | assumption | exact grA | apply grB | apply grC | apply grD | refine grE ?_ (by omega) _ | refine grF ?_ (by omega) _ _))
theorem xnext_num {w0 w : World} {g : Nat} {a : Option Addr} {cap : Nat} {L : List Int} {i : Nat} {c : Int} (h : Rd w0 w g a cap L i) (c0 : chAt L i = c) (hc : (c = 49 ∧ chAt L (i + 1) = 41) ∨ (c = 53 ∧ chAt L (i + 1) = -1)) :
    Calls Tryz.prog 62 #[.pointer (some ⟨g, 0, none⟩)] w (fun e w' => e = .returned (numTk (c - 48)).v ∧ On1 w g a cap L.length (i + 1) w') := by
  rcases hc with ⟨rfl, c1⟩ | ⟨rfl, c1⟩
  · exact xnum49p h c0 c1
  · exact xnum53e h c0 c1
/-- characters and their tokens, numbers of one digit too -/
inductive Lex2 : List Int → List Tk → Prop
  | nil : Lex2 [] []
  | space {l ts} : l.head? ≠ some 32 → Lex2 l ts → Lex2 (32 :: l) (mkTk 13 ⟨#[]⟩ :: ts)
  | single {k c kd l ts} : Sgl k c kd → Lex2 l ts → Lex2 (c :: l) (mkTk kd ⟨#[]⟩ :: ts)
  | num {c l ts} : (c = 49 ∧ l.head? = some 41 ∨ c = 53 ∧ l = []) → Lex2 l ts → Lex2 (c :: l) (numTk (c - 48) :: ts)
  | ident {nm l ts} : nm ≠ [] → (∀ x ∈ nm, letC x = true) → Sta (nm ++ l) → (∀ x, l.head? = some x → letC x = false) → l.head? ≠ some 40 → Lex2 l ts → Lex2 (nm ++ l) (mkTk 1 (txt nm) :: ts)
  | func {nm l ts} : nm ≠ [] → (∀ x ∈ nm, letC x = true) → Sta (nm ++ 40 :: l) → ((lowS (txt nm)).toList == [117, 114, 108]) = false → Lex2 l ts → Lex2 (nm ++ 40 :: l) (mkTk 2 (txt nm) :: ts)
theorem Lex2.len {l : List Int} {ts : List Tk} (h : Lex2 l ts) : ts.length ≤ l.length := by
  induction h with
  | nil => exact Nat.le_refl _
  | space _ _ ih => simp; omega
  | single _ _ ih => simp; omega
  | num _ _ ih => simp; omega
  | ident h _ _ _ _ _ ih => have := List.length_pos_iff.2 h; simp; omega
  | func h _ _ _ _ ih => simp; omega
theorem numTk_wf {v : Int} (h : v = 1 ∨ v = 5) : (numTk v).Wf := by
  rcases h with rfl | rfl <;> exact ⟨⟨by show (_ : Int) ≤ 10; decide, by show (10 : Int) ≤ _; decide⟩, by show (0 : Nat) ≤ _; omega, ⟨by show (_ : Int) ≤ _; decide, by show (_ : Int) ≤ _; decide⟩, ⟨by show (_ : Int) ≤ 1; decide, by show (1 : Int) ≤ _; decide⟩⟩
theorem xnext2_any {g : Nat} {a : Option Addr} {cap : Nat} {L : List Int} {i : Nat} {t : Tk} {ts : List Tk} (hL : L.length ≤ 1000) (hx : Lex2 (L.drop i) (t :: ts)) :
    ∃ (i' : Nat), t.Wf ∧ i' ≤ L.length ∧ Lex2 (L.drop i') ts ∧ chAt L i ≠ -1 ∧
      ∀ (w0 w : World), Rd w0 w g a cap L i → KindsAt w0 → Calls Tryz.prog 62 #[.pointer (some ⟨g, 0, none⟩)] w (fun e w' => e = .returned t.v ∧ On1 w g a cap L.length i' w') := by
  have hat0 : ∀ l, L.drop i = l → chAt L i = chAt l 0 ∧ chAt L (i + 1) = chAt l 1 := fun l hl => ⟨by have := chAt_drop L i 0; rw [hl] at this; exact this, by rw [chAt_drop, hl]⟩
  generalize hd : L.drop i = l at hx
  obtain ⟨e0, e1⟩ := hat0 l hd
  cases hx with
  | @space l _ h1 h2 =>
    obtain ⟨q1, q2⟩ := drop_tail (x := [32]) hd (by simp)
    have c0 : chAt L i = 32 := e0
    have c1 : chAt L (i + 1) ≠ 32 := by
      rw [e1]
      cases l with
      | nil => decide
      | cons y l => intro e; exact h1 (by rw [show y = 32 from e]; rfl)
    exact ⟨i + 1, mkTk_wf ⟨by omega, by omega⟩ (by decide), q1, q2 ▸ h2, by rw [c0]; decide, fun w0 w h _ => xnext_space h c0 c1⟩
  | @single k c kd l _ h1 h2 =>
    obtain ⟨q1, q2⟩ := drop_tail (x := [c]) hd (by simp)
    have c0 : chAt L i = c := e0
    exact ⟨i + 1, mkTk_wf (by cases h1 <;> exact ⟨by omega, by omega⟩) (by decide), q1, q2 ▸ h2, by rw [c0]; cases h1 <;> decide, fun w0 w h hK => xnext_single h hK c0 h1⟩
  | @num c l _ h1 h3 =>
    obtain ⟨q1, q2⟩ := drop_tail (x := [c]) hd (by simp)
    have c0 : chAt L i = c := e0
    have hc : (c = 49 ∧ chAt L (i + 1) = 41) ∨ (c = 53 ∧ chAt L (i + 1) = -1) := by
      rw [e1]
      rcases h1 with ⟨h1, h2⟩ | ⟨h1, rfl⟩
      · refine .inl ⟨h1, ?_⟩
        cases l with
        | nil => cases h2
        | cons y l => exact (Option.some.inj h2 : y = 41)
      · exact .inr ⟨h1, rfl⟩
    exact ⟨i + 1, numTk_wf (by omega), q1, q2 ▸ h3, (by rcases hc with ⟨h, _⟩ | ⟨h, _⟩ <;> (rw [c0, h]; decide)), fun w0 w h _ => xnext_num h c0 hc⟩
  | @ident nm l _ h1 h2 h3 h4 h5 h6 =>
    obtain ⟨q1, q2⟩ := drop_tail hd h1
    have h3' : (97 ≤ chAt L i ∧ chAt L i ≤ 122) ∨ (chAt L i = 45 ∧ chAt L (i + 1) = 45) := by rw [e0, e1]; exact h3
    exact ⟨i + nm.length, mkTk_wf ⟨by omega, by omega⟩ (by rw [txt_size]; simp only [maxLen]; omega), q1, q2 ▸ h6, by omega, fun w0 w h _ => xnext_word h (fun W hg => xword_any (h.grows hg) hd h2 h1 h4 h5) h3'⟩
  | @func nm l _ h1 h2 h3 h4 h5 =>
    obtain ⟨q1, q2⟩ := drop_tail (x := nm ++ [40]) (l := l) (by rw [hd]; simp) (by simp)
    have h3' : (97 ≤ chAt L i ∧ chAt L i ≤ 122) ∨ (chAt L i = 45 ∧ chAt L (i + 1) = 45) := by rw [e0, e1]; exact h3
    have e : i + (nm ++ [40]).length = i + nm.length + 1 := by simp; omega
    rw [e] at q1 q2
    exact ⟨i + nm.length + 1, mkTk_wf ⟨by omega, by omega⟩ (by rw [txt_size]; simp only [maxLen]; omega), q1, q2 ▸ h5, by omega, fun w0 w h _ => xnext_word h (fun W hg => xfunc_any (h.grows hg) hd h2 h1 h4) h3'⟩
set_option maxRecDepth 100000 in
set_option maxHeartbeats 8000000 in
theorem xtokens2_any {w : World} {v : Value} {L : List Int} {all : List Tk} (hL : SlAt w (fun b => b < w.heap.size) 1 RuR v L) (hlen : L.length ≤ 1000) (hK : KindsAt w) (hx : Lex2 L all) :
    Calls Tryz.prog 40 #[v] w (fun e w' => ∃ r, e = .returned r ∧ w.grows w' ∧ TkO w' w.heap.size r all) := by
  obtain ⟨a, cap, rfl, -, -⟩ := SlAt.len hL
  have HL := Lib.hid hL
  have HK := Lib.hid hK
  have HX := Lib.hid hx
  have hal := hx.len
  clear hL hK hx
  go_enter Tryz.func40, Tryz.ntmps40
  go_wp2_with fail
  refine abs_rows (w := w) (G := fun W => Code.wp _ _ _ _ W) (by repeat (with_reducible first | assumption | exact grA | apply grB | apply grC | apply grD | refine grE ?_ (by omega) _ | refine grF ?_ (by omega) _ _)) [(w.heap.size, .cells #[.slice a L.length cap, .int .i64 ((0 : Nat) : Int)] 100)] (by simp [go_sem, *]) ?_
  intro w2 gw2 hl
  simp only [List.forall_mem_cons, List.not_mem_nil, false_implies, implies_true, and_true] at hl
  have x0 := hl
  have zx0 := row_sz' x0
  have hs2 := gw2.below.size
  have hlt2 := zx0.1
  have hg0 : w.heap.size ≤ w.heap.size := Nat.le_refl _
  generalize hb : w.heap.size = g at x0 zx0 hlt2
  go_loopg [3] all.length (fun gn v3 wj => ∃ (i : Nat) (out ts : List Tk) (a1 : Option Addr) (c1 : Nat), Hid (gn = ts.length ∧ out ++ ts = all ∧ Lex2 (L.drop i) ts ∧ i ≤ L.length) ∧ v3 = .slice a1 out.length c1 ∧ w2.heap.size ≤ wj.heap.size ∧ Hid (w.grows wj ∧ wj.row g = some (.cells #[.slice a L.length cap, .int .i64 i] 100) ∧ TkO wj w2.heap.size (.slice a1 out.length c1) out))
  case atStart => exact ⟨0, [], all, none, 0, Lib.hid ⟨rfl, rfl, HX.out, Nat.zero_le _⟩, rfl, by go_num, Lib.hid ⟨gw2, x0, TkO.nil _ _⟩⟩
  case round =>
    obtain ⟨i, out, ts, a1, c1, HQ, rfl, hsz, HS⟩ := hrel
    obtain ⟨q1, q2, q3, q4⟩ := HQ.out
    obtain ⟨hgj, hrow, hO⟩ := HS.out
    have hrd := mkRd HL.out hgj hrow (Nat.le_of_eq hb) q4 hlen
    have HO := Lib.hid hO
    have HRD := Lib.hid hrd
    have HRM := Lib.hid (fun (W : World) (hg : wr.grows W) => xremarks_any (hrd.grows hg))
    have H0 := Lib.hid (fun (W : World) (hg : wr.grows W) => xat0 (hrd.grows hg))
    have zr := row_sz' hrow
    have zrl := zr.1
    clear hO hrd HS
    cases ts with
    | nil =>
      have hnil : L.drop i = [] := by
        generalize L.drop i = l at q3
        cases q3; rfl
      have hc : chAt L i = -1 := chAt_end (by have := congrArg List.length hnil; simp at this; omega)
      rw [hc] at H0
      rw [List.append_nil] at q2
      subst q2
      clear hc hnil q3 q4 q1 hrow
      go_wp2_with (first | (go_at_call 61; (with_reducible refine (H0.out _ (hgr2.trans (by repeat (with_reducible first | assumption | exact grA | apply grB | apply grC | apply grD | refine grE ?_ (by omega) _ | refine grF ?_ (by omega) _ _)))).mono ?_); rintro e w1 ⟨rfl, x1, rfl⟩) | (go_at_call 60; go_loud ((with_reducible refine (HRM.out _ (by repeat (with_reducible first | assumption | exact grA | apply grB | apply grC | apply grD | refine grE ?_ (by omega) _ | refine grF ?_ (by omega) _ _))).mono ?_); rintro r w5 ⟨rfl, hgr2⟩; replace hgr2 : wr.grows w5 := World.grows.trans (by repeat (with_reducible first | assumption | exact grA | apply grB | apply grC | apply grD | refine grE ?_ (by omega) _ | refine grF ?_ (by omega) _ _)) hgr2)))
      go_ret
      refine ⟨_, rfl, hgj.trans (hgr2.trans (by repeat (with_reducible first | assumption | exact grA | apply grB | apply grC | apply grD | refine grE ?_ (by omega) _ | refine grF ?_ (by omega) _ _))), own_low hs2 (HO.out.1.grows (hgr2.trans (by repeat (with_reducible first | assumption | exact grA | apply grB | apply grC | apply grD | refine grE ?_ (by omega) _ | refine grF ?_ (by omega) _ _)))), HO.out.2⟩
    | cons t ts =>
      obtain ⟨i', htw, hi', hlx, hne, hnx⟩ := xnext2_any (g := g) (a := a) (cap := cap) hlen q3
      have HNX := Lib.hid (fun (W : World) (hg : wr.grows W) => hnx w W (HRD.out.grows hg) HK.out)
      have HTW := Lib.hid htw
      have HLX := Lib.hid hlx
      have hc : (chAt L i == -1) = false := by simpa using hne
      have hol : out.length ≤ 1000 := by have := congrArg List.length q2; simp at this; omega
      clear hnx htw hlx hne q3
      go_upto_region 6 with (first | (go_at_call 61; (with_reducible refine (H0.out _ (hgr2.trans (by repeat (with_reducible first | assumption | exact grA | apply grB | apply grC | apply grD | refine grE ?_ (by omega) _ | refine grF ?_ (by omega) _ _)))).mono ?_); rintro e w1 ⟨rfl, x1, rfl⟩) | (go_at_call 60; go_loud ((with_reducible refine (HRM.out _ (by repeat (with_reducible first | assumption | exact grA | apply grB | apply grC | apply grD | refine grE ?_ (by omega) _ | refine grF ?_ (by omega) _ _))).mono ?_); rintro r w5 ⟨rfl, hgr2⟩; replace hgr2 : wr.grows w5 := World.grows.trans (by repeat (with_reducible first | assumption | exact grA | apply grB | apply grC | apply grD | refine grE ?_ (by omega) _ | refine grF ?_ (by omega) _ _)) hgr2)))
      go_wp2_with (first | (go_at_call 62; go_loud ((with_reducible refine (HNX.out _ (hgr2.trans (by repeat (with_reducible first | assumption | exact grA | apply grB | apply grC | apply grD | refine grE ?_ (by omega) _ | refine grF ?_ (by omega) _ _)))).mono ?_); rintro r w6 ⟨rfl, hon⟩; replace hon := On1.fro (w := wr) hon (hgr2.trans (by repeat (with_reducible first | assumption | exact grA | apply grB | apply grC | apply grD | refine grE ?_ (by omega) _ | refine grF ?_ (by omega) _ _))); have hg6 : w.grows w6 := hgj.grown hon.gb (fun k e => by injection e with e; omega); have hs6 := hon.gb.size; have HO6 := Lib.hid (ownsRow_rowV HO.out.1 (fun b hb2 => row_growV hon.gb (HO.out.1.lt b hb2).2 (fun e => by injection e with e; have := (HO.out.1.lt b hb2).1; omega))); have y0 := hon.row; have zy0 := row_sz' y0; have mO : some g ≠ (Value.slice a1 out.length c1).ownBlock := (fun e => by have := (HO.out.1.lt g e.symm).1; omega); rw [show t.v = .agg #[.int .i64 t.k, .string t.s, .int .i64 t.n, .int .i64 t.d, .bool t.w, .bool t.i] from rfl])) | ((at_builtin; refine wpList_app w (w2.heap.size) rfl (.tmp 14) (.tmp 17) _ rfl 65 (.agg #[.int .i64 0, .string ByteArray.empty, .int .i64 0, .int .i64 0, .bool false, .bool false]) 6 48 Tryz.underlying27 (by kernel_rfl) rfl (by omega) (by omega) _ out.length _ rfl ((HO6.out.grows (by repeat (with_reducible first | assumption | exact grA | apply grB | apply grC | apply grD | refine grE ?_ (by omega) _ | refine grF ?_ (by omega) _ _)))) _ 1 _ [.int .i64 t.k, .string t.s, .int .i64 t.n, .int .i64 t.d, .bool t.w, .bool t.i] rfl rfl (cells_of_row (e := 65) (fr := (0, 0)) (by simp [go_sem])) (by simp [Value.oneCell']) (by omega) (by repeat (with_reducible first | assumption | exact grA | apply grB | apply grC | apply grD | refine grE ?_ (by omega) _ | refine grF ?_ (by omega) _ _)) (by omega) (by first | omega | (simp <;> omega)) ?_; intro v' w' hg' HO' HR' HG' HA'); (obtain ⟨a9, c9, rfl⟩ := own_slice HO'.out; have z4 := rowG y0 HG'.out (by repeat (with_reducible first | assumption | exact grA | apply grB | apply grC | apply grD | refine grE ?_ (by omega) _ | refine grF ?_ (by omega) _ _)) mO; have hs9 := HG'.out.size)))
      have hszz : w2.heap.size ≤ w'.heap.size := Nat.le_trans hsz (Nat.le_trans hs6 (Nat.le_trans (World.grows.below (show w6.grows (w6.alloc _) from World.grows.alloc World.grows.refl _)).size hs9))
      go_roundg ts.length
      case measure => simp at q1; omega
      case rel =>
        refine ⟨i', out ++ [t], ts, a9, c9, Lib.hid ⟨rfl, by rw [← q2]; simp, HLX.out, hi'⟩, by simp, hszz, Lib.hid ⟨hg', z4, ?_, fun x hx => ?_⟩⟩
        · have h9 := HO'.out
          simp only [List.length_append, List.length_singleton, List.flatMap_append]
          exact h9
        · rcases List.mem_append.1 hx with hx | hx
          · exact HO.out.2 x hx
          · simp at hx; subst hx; exact HTW.out
set_option maxRecDepth 100000 in
theorem xbytes2_any {w : World} {g c : Nat} {l : List UInt8} {zs : List Value} {fr : Nat × Nat} {ts : List Tk} (hr : w.row g = some (.cells (u8c l ++ zs).toArray 5 fr)) (hl : l.length ≤ 1000) (hk : OkL l) (hK : KindsAt w) (hx : Lex2 (runes l) ts) :
    Calls Tryz.prog 25 #[.slice (some ⟨g, 0, none⟩) l.length c] w (fun e w' => ∃ r, e = .returned r ∧ w.grows w' ∧ TkO w' w.heap.size r ts) := by
  have HD := Lib.hid (fun (W : World) (hg : w.grows W) => xdecode_any (c := c) (hg.row_eq (row_sz' hr).1 ▸ hr) hl hk)
  have HK := Lib.hid hK
  have HOK := Lib.hid (runes_ok hk)
  have hlen : (runes l).length = l.length := by simp [runes]
  have HT := Lib.hid (fun (W : World) (v : Value) (h : SlAt W (fun b => b < W.heap.size) 1 RuR v (runes l)) (hk : KindsAt W) => xtokens2_any h (by omega) hk hx)
  clear hr hk hK hx
  go_enter Tryz.func25, Tryz.ntmps25
  go_wp2_with (first | (go_at_call 41; go_loud ((with_reducible refine (HD.out _ (by repeat (with_reducible first | assumption | exact grA | apply grB | apply grC | apply grD | refine grE ?_ (by omega) _ | refine grF ?_ (by omega) _ _))).mono ?_); rintro r w1 ⟨v, rfl, hg1, hv⟩; have hg1' : w.grows w1 := World.grows.trans (by repeat (with_reducible first | assumption | exact grA | apply grB | apply grC | apply grD | refine grE ?_ (by omega) _ | refine grF ?_ (by omega) _ _)) hg1)) | (go_at_call 40; go_loud ((with_reducible refine (HT.out _ _ ((hv.slAt (S := fun b => b < w1.heap.size) HOK.out fun g _ h => h).keep (fun b hb hl => ⟨World.grows.row_eq (by repeat (with_reducible first | assumption | exact grA | apply grB | apply grC | apply grD | refine grE ?_ (by omega) _ | refine grF ?_ (by omega) _ _)) hb, Nat.lt_of_lt_of_le hb (World.grows.below (by repeat (with_reducible first | assumption | exact grA | apply grB | apply grC | apply grD | refine grE ?_ (by omega) _ | refine grF ?_ (by omega) _ _))).size⟩) fun _ _ _ h => h) (HK.out.grows (hg1'.trans (by repeat (with_reducible first | assumption | exact grA | apply grB | apply grC | apply grD | refine grE ?_ (by omega) _ | refine grF ?_ (by omega) _ _))))).mono ?_); rintro r w2 ⟨v2, rfl, hg2, hv2⟩)))
  go_ret
  exact ⟨_, rfl, hg1'.trans (hg2.trans (by repeat (with_reducible first | assumption | exact grA | apply grB | apply grC | apply grD | refine grE ?_ (by omega) _ | refine grF ?_ (by omega) _ _))), own_low hg1'.below.size (hv2.1.grows (by repeat (with_reducible first | assumption | exact grA | apply grB | apply grC | apply grD | refine grE ?_ (by omega) _ | refine grF ?_ (by omega) _ _))), hv2.2⟩
set_option maxRecDepth 100000 in
theorem toks2_any {w : World} {s : ByteArray} {ts : List Tk} (hl : s.size ≤ 1000) (hk : OkL s.data.toList) (hK : KindsAt w) (hx : Lex2 (runes s.data.toList) ts) :
    Calls Tryz.prog 10 #[.string s] w (fun e w' => ∃ r, e = .returned r ∧ w.grows w' ∧ TkO w' w.heap.size r ts) := by
  obtain ⟨c, n, W, zs, hcv, hgW, hsW, hrow, hn⟩ := conv_row (P := Tryz.prog) (u := .string) w 9 57 5 s (by kernel_rfl) (by kernel_rfl) (by kernel_rfl)
  have hsz : s.data.toList.length = s.size := rfl
  have HB := Lib.hid (fun (V : World) (hg : W.grows V) => xbytes2_any (c := c) (hg.row_eq (row_sz' hrow).1 ▸ hrow) hl hk ((hK.grows hgW).grows hg) hx)
  rw [hsz] at HB
  have HG := Lib.hid hgW
  clear hl hk hK hx hn hrow hsW
  go_enter Tryz.func10, Tryz.ntmps10
  go_wp2_with (go_at_call 25; go_loud ((with_reducible refine (HB.out _ (by repeat (with_reducible first | assumption | exact grA | apply grB | apply grC | apply grD | refine grE ?_ (by omega) _ | refine grF ?_ (by omega) _ _))).mono ?_); rintro r w1 ⟨v, rfl, hg1, hv⟩))
  go_ret
  exact ⟨_, rfl, HG.out.trans (hg1.trans (by repeat (with_reducible first | assumption | exact grA | apply grB | apply grC | apply grD | refine grE ?_ (by omega) _ | refine grF ?_ (by omega) _ _))), own_low HG.out.below.size (hv.1.grows (by repeat (with_reducible first | assumption | exact grA | apply grB | apply grC | apply grD | refine grE ?_ (by omega) _ | refine grF ?_ (by omega) _ _))), hv.2⟩
end Go.Proofs.YthcaphoejplecaaGreatDoor

/- Texts of the walk, one after the other; what each proves stands ahead of it. -/
import Derived.Test.YthcaphoejplecaaGreatDoorTk2
set_option linter.unusedSimpArgs false
set_option linter.unusedVariables false
/- WALKS over jalousieref3: the next token. No condition but the class of characters and the table of kinds. -/
namespace Go.Proofs.YthcaphoejplecaaGreatDoor
open Go.RowKit
/-- the table of kinds -/
def KindsAt (w : World) : Prop := ∃ (ty : TypeId) (fr : Nat × Nat), w.row 0 = some (.cells #[.int .i64 21, .int .i64 22, .int .i64 19, .int .i64 20, .int .i64 23, .int .i64 24, .int .i64 18, .int .i64 16, .int .i64 17] ty fr)
theorem On1.fro {w w' W : World} {g : Nat} {a : Option Addr} {cap n i : Nat} (h : On1 w' g a cap n i W) (hg : w.grows w') : On1 w g a cap n i W :=
  ⟨grownBy_trans (grownBy_of_grows hg (some g)) h.gb (fun k e => .inl e), h.row⟩
theorem sgl_ne (c : Int) {j : Nat} (hj : j < 9) (hc : c ∉ [40, 41, 91, 93, 123, 125, 44, 58, 59]) : ∃ q : Int, (∀ h, wrap32 (((({ data := #[40, 41, 91, 93, 123, 125, 44, 58, 59] } : ByteArray)[j]'h).toNat : Nat) : Int) = q) ∧ (q == c) = false := by
  simp only [List.mem_cons, List.not_mem_nil, or_false, not_or] at hc
  obtain ⟨n0, n1, n2, n3, n4, n5, n6, n7, n8⟩ := hc
  have h : j = 0 ∨ j = 1 ∨ j = 2 ∨ j = 3 ∨ j = 4 ∨ j = 5 ∨ j = 6 ∨ j = 7 ∨ j = 8 := by omega
  rcases h with rfl | rfl | rfl | rfl | rfl | rfl | rfl | rfl | rfl
  · exact ⟨40, fun h => (show wrap32 (((40 : UInt8).toNat : Nat) : Int) = 40 from by decide +kernel), beq_eq_false_iff_ne.2 (fun e => n0 e.symm)⟩
  · exact ⟨41, fun h => (show wrap32 (((41 : UInt8).toNat : Nat) : Int) = 41 from by decide +kernel), beq_eq_false_iff_ne.2 (fun e => n1 e.symm)⟩
  · exact ⟨91, fun h => (show wrap32 (((91 : UInt8).toNat : Nat) : Int) = 91 from by decide +kernel), beq_eq_false_iff_ne.2 (fun e => n2 e.symm)⟩
  · exact ⟨93, fun h => (show wrap32 (((93 : UInt8).toNat : Nat) : Int) = 93 from by decide +kernel), beq_eq_false_iff_ne.2 (fun e => n3 e.symm)⟩
  · exact ⟨123, fun h => (show wrap32 (((123 : UInt8).toNat : Nat) : Int) = 123 from by decide +kernel), beq_eq_false_iff_ne.2 (fun e => n4 e.symm)⟩
  · exact ⟨125, fun h => (show wrap32 (((125 : UInt8).toNat : Nat) : Int) = 125 from by decide +kernel), beq_eq_false_iff_ne.2 (fun e => n5 e.symm)⟩
  · exact ⟨44, fun h => (show wrap32 (((44 : UInt8).toNat : Nat) : Int) = 44 from by decide +kernel), beq_eq_false_iff_ne.2 (fun e => n6 e.symm)⟩
  · exact ⟨58, fun h => (show wrap32 (((58 : UInt8).toNat : Nat) : Int) = 58 from by decide +kernel), beq_eq_false_iff_ne.2 (fun e => n7 e.symm)⟩
  · exact ⟨59, fun h => (show wrap32 (((59 : UInt8).toNat : Nat) : Int) = 59 from by decide +kernel), beq_eq_false_iff_ne.2 (fun e => n8 e.symm)⟩
set_option maxRecDepth 100000 in
set_option maxHeartbeats 8000000 in
theorem xnext_space {w0 w : World} {g : Nat} {a : Option Addr} {cap : Nat} {L : List Int} {i : Nat} (h : Rd w0 w g a cap L i) (h1 : chAt L i = 32) (h2 : chAt L (i + 1) ≠ 32) :
    Calls Tryz.prog 62 #[.pointer (some ⟨g, 0, none⟩)] w (fun e w' => e = .returned (mkTk 13 ⟨#[]⟩).v ∧ On1 w g a cap L.length (i + 1) w') := by
  have HB := Lib.hid (fun (w : World) (h : Rd w0 w g a cap L i) => xblanks_any h h1 h2)
  have x0 := h.row
  have zx0 := row_sz' x0
  have hlen := h.len
  have HRD := Lib.hid h
  go_enter Tryz.func62, Tryz.ntmps62
  go_upto_region 1 with fail
  refine abs_rows (w := w) (G := fun W => Code.wp _ _ _ _ W) (by repeat (with_reducible first | assumption | exact grA | apply grB | apply grC | apply grD | refine grE ?_ (by omega) _ | refine grF ?_ (by omega) _ _)) [(w.heap.size, .cells #[.int .i64 0, .string ⟨#[]⟩, .int .i64 0, .int .i64 0, .bool false, .bool false] 65)] (by simp [go_sem, *]) ?_
  intro w2 gw2 hl
  simp only [List.forall_mem_cons, List.not_mem_nil, false_implies, implies_true, and_true] at hl
  have x9 := hl
  have zx9 := row_sz' x9
  have hrd := HRD.out.grows gw2
  have H0 := Lib.hid (fun (W : World) (hg : w2.grows W) => xat0 (hrd.grows hg))
  have H1 := Lib.hid (fun (W : World) (hg : w2.grows W) => xat1 (hrd.grows hg))
  have H2 := Lib.hid (fun (W : World) (hg : w2.grows W) => xat2 (hrd.grows hg))
  have H3 := Lib.hid (fun (W : World) (hg : w2.grows W) => xat3 (hrd.grows hg))
  have hlt := zx0.1
  have y0 := hrd.row
  have HR2 := Lib.hid hrd
  clear hrd x0 zx0 h
  generalize hb : w.heap.size = b at *
  rw [h1] at H0
  clear h1 h2
  go_wp2_with (first | (go_at_call 61; (with_reducible refine (H0.out _ (by repeat (with_reducible first | assumption | exact grA | apply grB | apply grC | apply grD | refine grE ?_ (by omega) _ | refine grF ?_ (by omega) _ _))).mono ?_); rintro e w1 ⟨rfl, x1, rfl⟩) | (go_at_call 61; (with_reducible refine (H1.out _ (by repeat (with_reducible first | assumption | exact grA | apply grB | apply grC | apply grD | refine grE ?_ (by omega) _ | refine grF ?_ (by omega) _ _))).mono ?_); rintro e w1 ⟨rfl, x1, rfl⟩) | (go_at_call 61; (with_reducible refine (H2.out _ (by repeat (with_reducible first | assumption | exact grA | apply grB | apply grC | apply grD | refine grE ?_ (by omega) _ | refine grF ?_ (by omega) _ _))).mono ?_); rintro e w1 ⟨rfl, x1, rfl⟩))
  go_loopg [14] 9 (fun gn v14 wj => ∃ j : Nat, Hid (gn + j = 9) ∧ v14 = .int .i64 j ∧ w2.grows wj)
  case atStart => exact ⟨0, Lib.hid (by omega), by go_num, (by repeat (with_reducible first | assumption | exact grA | apply grB | apply grC | apply grD | refine grE ?_ (by omega) _ | refine grF ?_ (by omega) _ _))⟩
  case round =>
    obtain ⟨j, HQ, rfl, hgj⟩ := hrel
    have hq := HQ.out
    by_cases hlt : j < 9
    · have i1 : (0 : Int) ≤ (j : Int) := by omega
      have i2 : (j : Int) < 9 := by omega
      have hsg : ∃ q : Int, (∀ h, wrap32 (((({ data := #[40, 41, 91, 93, 123, 125, 44, 58, 59] } : ByteArray)[j]'h).toNat : Nat) : Int) = q) ∧ (q == 32) = false := sgl_ne _ hlt (by decide)
      obtain ⟨q, hq1, hq2⟩ := hsg
      have iw : IntKind.i64.wrap ((j : Int) + 1) = (j : Int) + 1 := by rw [IntKind.wrap_i64]; omega
      go_wp2_with fail
      go_roundg (8 - j)
      case measure => omega
      case rel => exact ⟨j + 1, Lib.hid (by omega), by go_num, hgj.trans (by repeat (with_reducible first | assumption | exact grA | apply grB | apply grC | apply grD | refine grE ?_ (by omega) _ | refine grF ?_ (by omega) _ _))⟩
    · have i2 : ¬ (j : Int) < 9 := by omega
      have hgr := HR2.out.grows hgj
      have zr9 := (hgj.row_eq zx9.1).trans x9
      have zz9 := row_sz' zr9
      go_upto_region 11 with (first | (go_at_call 84; (with_reducible refine (xblank_any 32 (by omega) (by omega) _).mono ?_); rintro e w1 ⟨rfl, x1, rfl⟩) | (go_at_call 85; go_loud ((with_reducible refine (HB.out _ (hgr.grows (by repeat (with_reducible first | assumption | exact grA | apply grB | apply grC | apply grD | refine grE ?_ (by omega) _ | refine grF ?_ (by omega) _ _)))).mono ?_); rintro r w5 ⟨rfl, hon⟩; replace hon := On1.fro (w := wr) hon (by repeat (with_reducible first | assumption | exact grA | apply grB | apply grC | apply grD | refine grE ?_ (by omega) _ | refine grF ?_ (by omega) _ _)))))
      have v9 := (row_growV hon.gb zz9.1 (fun e => by injection e with e; omega)).trans zr9
      have zv9 := row_sz' v9
      go_wp2_with fail
      refine bodyPost_ret (tok_res rfl _ (w1 := w5) (b := b) 13 ⟨#[]⟩ rfl v9 ?_) rfl ⟨rfl, tok_on (w1 := w5) (gw2.trans hgj) hon (Nat.le_of_eq hb) (by omega) 13 ⟨#[]⟩ ?_⟩
      · exact (by repeat (with_reducible first | assumption | exact grA | apply grB | apply grC | apply grD | refine grE ?_ (by omega) _ | refine grF ?_ (by omega) _ _))
      · exact (by repeat (with_reducible first | assumption | exact grA | apply grB | apply grC | apply grD | refine grE ?_ (by omega) _ | refine grF ?_ (by omega) _ _))
/-- a sign of one character, its place and its kind -/
inductive Sgl : Nat → Int → Int → Prop
  | po : Sgl 0 40 21
  | pc : Sgl 1 41 22
  | cm : Sgl 6 44 18
theorem Sgl.facts {k : Nat} {c kd : Int} (h : Sgl k c kd) : k < 9 ∧ (∀ j, j < k → ∃ q : Int, (∀ h, wrap32 (((({ data := #[40, 41, 91, 93, 123, 125, 44, 58, 59] } : ByteArray)[j]'h).toNat : Nat) : Int) = q) ∧ (q == c) = false) ∧ (∀ h, wrap32 (((({ data := #[40, 41, 91, 93, 123, 125, 44, 58, 59] } : ByteArray)[k]'h).toNat : Nat) : Int) = c) ∧ (#[Value.int .i64 21, .int .i64 22, .int .i64 19, .int .i64 20, .int .i64 23, .int .i64 24, .int .i64 18, .int .i64 16, .int .i64 17] : Array Value)[k]? = some (.int .i64 kd) := by
  cases h
  · exact ⟨by omega, fun j hj => by omega, fun h => (show wrap32 (((40 : UInt8).toNat : Nat) : Int) = 40 from by decide +kernel), rfl⟩
  · refine ⟨by omega, fun j hj => ?_, fun h => (show wrap32 (((41 : UInt8).toNat : Nat) : Int) = 41 from by decide +kernel), rfl⟩
    obtain rfl : j = 0 := by omega
    exact ⟨40, fun h => (show wrap32 (((40 : UInt8).toNat : Nat) : Int) = 40 from by decide +kernel), rfl⟩
  · refine ⟨by omega, fun j hj => ?_, fun h => (show wrap32 (((44 : UInt8).toNat : Nat) : Int) = 44 from by decide +kernel), rfl⟩
    have h : j = 0 ∨ j = 1 ∨ j = 2 ∨ j = 3 ∨ j = 4 ∨ j = 5 := by omega
    rcases h with rfl | rfl | rfl | rfl | rfl | rfl
    · exact ⟨40, fun h => (show wrap32 (((40 : UInt8).toNat : Nat) : Int) = 40 from by decide +kernel), rfl⟩
    · exact ⟨41, fun h => (show wrap32 (((41 : UInt8).toNat : Nat) : Int) = 41 from by decide +kernel), rfl⟩
    · exact ⟨91, fun h => (show wrap32 (((91 : UInt8).toNat : Nat) : Int) = 91 from by decide +kernel), rfl⟩
    · exact ⟨93, fun h => (show wrap32 (((93 : UInt8).toNat : Nat) : Int) = 93 from by decide +kernel), rfl⟩
    · exact ⟨123, fun h => (show wrap32 (((123 : UInt8).toNat : Nat) : Int) = 123 from by decide +kernel), rfl⟩
    · exact ⟨125, fun h => (show wrap32 (((125 : UInt8).toNat : Nat) : Int) = 125 from by decide +kernel), rfl⟩
set_option maxRecDepth 100000 in
set_option maxHeartbeats 8000000 in
theorem xnext_single {w0 w : World} {g : Nat} {a : Option Addr} {cap : Nat} {L : List Int} {i k : Nat} {c kd : Int} (h : Rd w0 w g a cap L i) (hK : KindsAt w0) (h1 : chAt L i = c) (hs : Sgl k c kd) :
    Calls Tryz.prog 62 #[.pointer (some ⟨g, 0, none⟩)] w (fun e w' => e = .returned (mkTk kd ⟨#[]⟩).v ∧ On1 w g a cap L.length (i + 1) w') := by
  obtain ⟨hk9, hmis, hmat, hkd⟩ := hs.facts
  have hi : i + 1 ≤ L.length := by
    by_cases hh : L.length ≤ i
    · rw [chAt_end hh] at h1; subst h1; cases hs
    · omega
  obtain ⟨ty, fr, hK0⟩ := hK
  have hg0 : 0 < g := Nat.lt_of_lt_of_le (row_sz' hK0).1 h.lo
  have hKC : ∀ W : World, w.grows W → ∀ v, cellR k ((W.setCell ⟨g, 1, none⟩ v).row 0) = some (.int .i64 kd) := fun W hW v => by
    rw [World.row_setCell, if_neg (by omega), (h.base.trans hW).row_eq (row_sz' hK0).1, hK0]
    exact hkd
  have HKC := Lib.hid hKC
  have HMI := Lib.hid hmis
  clear hs hkd hKC hmis hK0
  have x0 := h.row
  have zx0 := row_sz' x0
  have hlen := h.len
  have HRD := Lib.hid h
  go_enter Tryz.func62, Tryz.ntmps62
  go_upto_region 1 with fail
  refine abs_rows (w := w) (G := fun W => Code.wp _ _ _ _ W) (by repeat (with_reducible first | assumption | exact grA | apply grB | apply grC | apply grD | refine grE ?_ (by omega) _ | refine grF ?_ (by omega) _ _)) [(w.heap.size, .cells #[.int .i64 0, .string ⟨#[]⟩, .int .i64 0, .int .i64 0, .bool false, .bool false] 65)] (by simp [go_sem, *]) ?_
  intro w2 gw2 hl
  simp only [List.forall_mem_cons, List.not_mem_nil, false_implies, implies_true, and_true] at hl
  have x9 := hl
  have zx9 := row_sz' x9
  have hrd := HRD.out.grows gw2
  have H0 := Lib.hid (fun (W : World) (hg : w2.grows W) => xat0 (hrd.grows hg))
  have H1 := Lib.hid (fun (W : World) (hg : w2.grows W) => xat1 (hrd.grows hg))
  have H2 := Lib.hid (fun (W : World) (hg : w2.grows W) => xat2 (hrd.grows hg))
  have H3 := Lib.hid (fun (W : World) (hg : w2.grows W) => xat3 (hrd.grows hg))
  have hlt := zx0.1
  have y0 := hrd.row
  have HR2 := Lib.hid hrd
  clear hrd x0 zx0 h
  generalize hb : w.heap.size = b at *
  rw [h1] at H0
  clear h1
  go_wp2_with (first | (go_at_call 61; (with_reducible refine (H0.out _ (by repeat (with_reducible first | assumption | exact grA | apply grB | apply grC | apply grD | refine grE ?_ (by omega) _ | refine grF ?_ (by omega) _ _))).mono ?_); rintro e w1 ⟨rfl, x1, rfl⟩) | (go_at_call 61; (with_reducible refine (H1.out _ (by repeat (with_reducible first | assumption | exact grA | apply grB | apply grC | apply grD | refine grE ?_ (by omega) _ | refine grF ?_ (by omega) _ _))).mono ?_); rintro e w1 ⟨rfl, x1, rfl⟩) | (go_at_call 61; (with_reducible refine (H2.out _ (by repeat (with_reducible first | assumption | exact grA | apply grB | apply grC | apply grD | refine grE ?_ (by omega) _ | refine grF ?_ (by omega) _ _))).mono ?_); rintro e w1 ⟨rfl, x1, rfl⟩))
  go_loopg [14] k (fun gn v14 wj => ∃ j : Nat, Hid (gn + j = k) ∧ v14 = .int .i64 j ∧ w2.grows wj)
  case atStart => exact ⟨0, Lib.hid (by omega), by go_num, (by repeat (with_reducible first | assumption | exact grA | apply grB | apply grC | apply grD | refine grE ?_ (by omega) _ | refine grF ?_ (by omega) _ _))⟩
  case round =>
    obtain ⟨j, HQ, rfl, hgj⟩ := hrel
    have hq := HQ.out
    have i1 : (0 : Int) ≤ (j : Int) := by omega
    have i2 : (j : Int) < 9 := by omega
    by_cases hlt : j < k
    · obtain ⟨q, hq1, hq2⟩ := HMI.out j hlt
      have iw : IntKind.i64.wrap ((j : Int) + 1) = (j : Int) + 1 := by rw [IntKind.wrap_i64]; omega
      go_wp2_with fail
      go_roundg (k - (j + 1))
      case measure => omega
      case rel => exact ⟨j + 1, Lib.hid (by omega), by go_num, hgj.trans (by repeat (with_reducible first | assumption | exact grA | apply grB | apply grC | apply grD | refine grE ?_ (by omega) _ | refine grF ?_ (by omega) _ _))⟩
    · obtain rfl : j = k := by omega
      have hgr := HR2.out.grows hgj
      have zr9 := (hgj.row_eq zx9.1).trans x9
      have zz9 := row_sz' zr9
      have zr0 := hgr.row
      have zz0 := row_sz' zr0
      have iw : IntKind.i64.wrap ((i : Int) + 1) = (i : Int) + 1 := by rw [IntKind.wrap_i64]; omega
      go_upto_region 7 with fail
      have hon3 : On1 wr g a cap L.length (i + 1) (wr.setCell ⟨g, 1, none⟩ (.int .i64 ((i : Int) + 1))) := on_step (grownBy_of_grows World.grows.refl _) zr0 _ _ (by omega)
      have v9 : (wr.setCell ⟨g, 1, none⟩ (.int .i64 ((i : Int) + 1))).row b = some (.cells zeroA 65) := by rw [World.row_setCell, if_neg (by omega)]; exact zr9
      have kc := HKC.out wr (gw2.trans hgj) (.int .i64 ((i : Int) + 1))
      generalize wr.setCell ⟨g, 1, none⟩ (.int .i64 ((i : Int) + 1)) = w3 at *
      have zv9 := row_sz' v9
      have z00 : 0 < w3.heap.size := by have := zv9.1; omega
      have zz00 := lt_sz z00
      go_wp2_with fail
      refine bodyPost_ret (tok_res rfl _ (w1 := w3) (b := b) kd ⟨#[]⟩ rfl v9 ?_) rfl ⟨rfl, tok_on (w1 := w3) (gw2.trans hgj) hon3 (Nat.le_of_eq hb) (by omega) kd ⟨#[]⟩ ?_⟩
      · exact (by repeat (with_reducible first | assumption | exact grA | apply grB | apply grC | apply grD | refine grE ?_ (by omega) _ | refine grF ?_ (by omega) _ _))
      · exact (by repeat (with_reducible first | assumption | exact grA | apply grB | apply grC | apply grD | refine grE ?_ (by omega) _ | refine grF ?_ (by omega) _ _))
end Go.Proofs.YthcaphoejplecaaGreatDoor

/- WALKS over jalousieref3: the next token is a word. No condition but the class of characters. -/
namespace Go.Proofs.YthcaphoejplecaaGreatDoor
open Go.RowKit
set_option maxRecDepth 100000 in
set_option maxHeartbeats 8000000 in
theorem xnext_word {w0 w : World} {g : Nat} {a : Option Addr} {cap : Nat} {L : List Int} {i i' : Nat} {kd : Int} {s : ByteArray} (h : Rd w0 w g a cap L i) (hw : ∀ W, w.grows W → Calls Tryz.prog 93 #[.pointer (some ⟨g, 0, none⟩)] W (fun e w' => e = .returned (mkTk kd s).v ∧ On1 W g a cap L.length i' w')) (hc : (97 ≤ chAt L i ∧ chAt L i ≤ 122) ∨ (chAt L i = 45 ∧ chAt L (i + 1) = 45)) :
    Calls Tryz.prog 62 #[.pointer (some ⟨g, 0, none⟩)] w (fun e w' => e = .returned (mkTk kd s).v ∧ On1 w g a cap L.length i' w') := by
  have HW := Lib.hid hw
  have k0 := chAt_ok h.ok i
  have k1 := chAt_ok h.ok (i + 1)
  have k2 := chAt_ok h.ok (i + 2)
  clear hw
  have x0 := h.row
  have zx0 := row_sz' x0
  have hlen := h.len
  have HRD := Lib.hid h
  go_enter Tryz.func62, Tryz.ntmps62
  go_upto_region 1 with fail
  refine abs_rows (w := w) (G := fun W => Code.wp _ _ _ _ W) (by repeat (with_reducible first | assumption | exact grA | apply grB | apply grC | apply grD | refine grE ?_ (by omega) _ | refine grF ?_ (by omega) _ _)) [(w.heap.size, .cells #[.int .i64 0, .string ⟨#[]⟩, .int .i64 0, .int .i64 0, .bool false, .bool false] 65)] (by simp [go_sem, *]) ?_
  intro w2 gw2 hl
  simp only [List.forall_mem_cons, List.not_mem_nil, false_implies, implies_true, and_true] at hl
  have x9 := hl
  have zx9 := row_sz' x9
  have hrd := HRD.out.grows gw2
  have H0 := Lib.hid (fun (W : World) (hg : w2.grows W) => xat0 (hrd.grows hg))
  have H1 := Lib.hid (fun (W : World) (hg : w2.grows W) => xat1 (hrd.grows hg))
  have H2 := Lib.hid (fun (W : World) (hg : w2.grows W) => xat2 (hrd.grows hg))
  have H3 := Lib.hid (fun (W : World) (hg : w2.grows W) => xat3 (hrd.grows hg))
  have hlt := zx0.1
  have y0 := hrd.row
  have HR2 := Lib.hid hrd
  clear hrd x0 zx0 h
  generalize hb : w.heap.size = b at *
  generalize chAt L i = c at *
  generalize chAt L (i + 1) = d at *
  generalize chAt L (i + 2) = e at *
  have HNU := Lib.hid (fun W => xnumber_any c d e k0 k1 W)
  have HBE := Lib.hid (fun W => xbegins_any c d e k0 k1 W)
  have HBL := Lib.hid (fun W => xblank_any c (by omega) (by omega) W)
  have HSG := Lib.hid (fun j (hj : j < 9) => sgl_ne c hj (by simp only [List.mem_cons, List.not_mem_nil, or_false, not_or]; omega))
  have e62 : (e == 62) = false := by simp; unfold EndC OkC at k2; omega
  rcases hc with ⟨c1, c2⟩ | ⟨rfl, rfl⟩
  · have b1 : blaC c = false := by unfold blaC; simp; omega
    have b2 : (if c = 45 then digC d else digC c) = false := by rw [if_neg (by omega)]; unfold digC; simp; omega
    have b3 : Beg c d = true := by unfold Beg; rw [if_neg (by omega)]; unfold firC; simp; omega
    have n34 : (c == 34) = false := by simp; omega
    have n39 : (c == 39) = false := by simp; omega
    have n35 : (c == 35) = false := by simp; omega
    have n45 : (c == 45) = false := by simp; omega
    have n60 : (c == 60) = false := by simp; omega
    have n64 : (c == 64) = false := by simp; omega
    rw [b1] at HBL
    rw [b2] at HNU
    rw [b3] at HBE
    clear b1 b2 b3 k0 k1 k2 c1 c2
    go_wp2_with (first | (go_at_call 61; (with_reducible refine (H0.out _ (by repeat (with_reducible first | assumption | exact grA | apply grB | apply grC | apply grD | refine grE ?_ (by omega) _ | refine grF ?_ (by omega) _ _))).mono ?_); rintro e w1 ⟨rfl, x1, rfl⟩) | (go_at_call 61; (with_reducible refine (H1.out _ (by repeat (with_reducible first | assumption | exact grA | apply grB | apply grC | apply grD | refine grE ?_ (by omega) _ | refine grF ?_ (by omega) _ _))).mono ?_); rintro e w1 ⟨rfl, x1, rfl⟩) | (go_at_call 61; (with_reducible refine (H2.out _ (by repeat (with_reducible first | assumption | exact grA | apply grB | apply grC | apply grD | refine grE ?_ (by omega) _ | refine grF ?_ (by omega) _ _))).mono ?_); rintro e w1 ⟨rfl, x1, rfl⟩))
    go_loopg [14] 9 (fun gn v14 wj => ∃ j : Nat, Hid (gn + j = 9) ∧ v14 = .int .i64 j ∧ w2.grows wj)
    case atStart => exact ⟨0, Lib.hid (by omega), by go_num, (by repeat (with_reducible first | assumption | exact grA | apply grB | apply grC | apply grD | refine grE ?_ (by omega) _ | refine grF ?_ (by omega) _ _))⟩
    case round =>
      obtain ⟨j, HQ, rfl, hgj⟩ := hrel
      have hq := HQ.out
      by_cases hlt : j < 9
      · have i1 : (0 : Int) ≤ (j : Int) := by omega
        have i2 : (j : Int) < 9 := by omega
        obtain ⟨q, hq1, hq2⟩ := HSG.out j hlt
        have iw : IntKind.i64.wrap ((j : Int) + 1) = (j : Int) + 1 := by rw [IntKind.wrap_i64]; omega
        go_wp2_with fail
        go_roundg (8 - j)
        case measure => omega
        case rel => exact ⟨j + 1, Lib.hid (by omega), by go_num, hgj.trans (by repeat (with_reducible first | assumption | exact grA | apply grB | apply grC | apply grD | refine grE ?_ (by omega) _ | refine grF ?_ (by omega) _ _))⟩
      · have i2 : ¬ (j : Int) < 9 := by omega
        have zr9 := (hgj.row_eq zx9.1).trans x9
        have zz9 := row_sz' zr9
        go_upto_region 31 with (first | (go_at_call 61; (with_reducible refine (H3.out _ (hgj.trans (by repeat (with_reducible first | assumption | exact grA | apply grB | apply grC | apply grD | refine grE ?_ (by omega) _ | refine grF ?_ (by omega) _ _)))).mono ?_); rintro e w1 ⟨rfl, x1, rfl⟩) | (go_at_call 84; (with_reducible refine (HBL.out _).mono ?_); rintro e w1 ⟨rfl, x1, rfl⟩) | (go_at_call 91; (with_reducible refine (HNU.out _).mono ?_); rintro e w1 ⟨rfl, x1, rfl⟩) | (go_at_call 89; (with_reducible refine (HBE.out _).mono ?_); rintro e w1 ⟨rfl, x1, rfl⟩))
        go_wp2_with (go_at_call 93; go_loud ((with_reducible refine (HW.out _ (gw2.trans (hgj.trans (by repeat (with_reducible first | assumption | exact grA | apply grB | apply grC | apply grD | refine grE ?_ (by omega) _ | refine grF ?_ (by omega) _ _))))).mono ?_); rintro r w5 ⟨rfl, hon⟩; replace hon := On1.fro (w := wr) hon (by repeat (with_reducible first | assumption | exact grA | apply grB | apply grC | apply grD | refine grE ?_ (by omega) _ | refine grF ?_ (by omega) _ _)); have v9 := (row_growV hon.gb zz9.1 (fun e => by injection e with e; omega)).trans zr9; have zv9 := row_sz' v9; rw [show (mkTk kd s).v = .agg #[.int .i64 kd, .string s, .int .i64 0, .int .i64 0, .bool false, .bool false] from rfl]))
        refine bodyPost_ret (tok_res rfl _ (w1 := w5) (b := b) kd s rfl v9 ?_) rfl ⟨rfl, tok_on (w1 := w5) (gw2.trans hgj) hon (Nat.le_of_eq hb) (by omega) kd s ?_⟩
        · exact (by repeat (with_reducible first | assumption | exact grA | apply grB | apply grC | apply grD | refine grE ?_ (by omega) _ | refine grF ?_ (by omega) _ _))
        · exact (by repeat (with_reducible first | assumption | exact grA | apply grB | apply grC | apply grD | refine grE ?_ (by omega) _ | refine grF ?_ (by omega) _ _))
  · have b1 : blaC 45 = false := by decide
    have b2 : (if (45 : Int) = 45 then digC 45 else digC 45) = false := by decide
    have b3 : Beg 45 45 = true := by decide
    rw [b1] at HBL
    rw [b2] at HNU
    rw [b3] at HBE
    clear b1 b2 b3 k0 k1 k2
    go_wp2_with (first | (go_at_call 61; (with_reducible refine (H0.out _ (by repeat (with_reducible first | assumption | exact grA | apply grB | apply grC | apply grD | refine grE ?_ (by omega) _ | refine grF ?_ (by omega) _ _))).mono ?_); rintro e w1 ⟨rfl, x1, rfl⟩) | (go_at_call 61; (with_reducible refine (H1.out _ (by repeat (with_reducible first | assumption | exact grA | apply grB | apply grC | apply grD | refine grE ?_ (by omega) _ | refine grF ?_ (by omega) _ _))).mono ?_); rintro e w1 ⟨rfl, x1, rfl⟩) | (go_at_call 61; (with_reducible refine (H2.out _ (by repeat (with_reducible first | assumption | exact grA | apply grB | apply grC | apply grD | refine grE ?_ (by omega) _ | refine grF ?_ (by omega) _ _))).mono ?_); rintro e w1 ⟨rfl, x1, rfl⟩))
    go_loopg [14] 9 (fun gn v14 wj => ∃ j : Nat, Hid (gn + j = 9) ∧ v14 = .int .i64 j ∧ w2.grows wj)
    case atStart => exact ⟨0, Lib.hid (by omega), by go_num, (by repeat (with_reducible first | assumption | exact grA | apply grB | apply grC | apply grD | refine grE ?_ (by omega) _ | refine grF ?_ (by omega) _ _))⟩
    case round =>
      obtain ⟨j, HQ, rfl, hgj⟩ := hrel
      have hq := HQ.out
      by_cases hlt : j < 9
      · have i1 : (0 : Int) ≤ (j : Int) := by omega
        have i2 : (j : Int) < 9 := by omega
        obtain ⟨q, hq1, hq2⟩ := HSG.out j hlt
        have iw : IntKind.i64.wrap ((j : Int) + 1) = (j : Int) + 1 := by rw [IntKind.wrap_i64]; omega
        go_wp2_with fail
        go_roundg (8 - j)
        case measure => omega
        case rel => exact ⟨j + 1, Lib.hid (by omega), by go_num, hgj.trans (by repeat (with_reducible first | assumption | exact grA | apply grB | apply grC | apply grD | refine grE ?_ (by omega) _ | refine grF ?_ (by omega) _ _))⟩
      · have i2 : ¬ (j : Int) < 9 := by omega
        have zr9 := (hgj.row_eq zx9.1).trans x9
        have zz9 := row_sz' zr9
        go_upto_region 31 with (first | (go_at_call 61; (with_reducible refine (H3.out _ (hgj.trans (by repeat (with_reducible first | assumption | exact grA | apply grB | apply grC | apply grD | refine grE ?_ (by omega) _ | refine grF ?_ (by omega) _ _)))).mono ?_); rintro e w1 ⟨rfl, x1, rfl⟩) | (go_at_call 84; (with_reducible refine (HBL.out _).mono ?_); rintro e w1 ⟨rfl, x1, rfl⟩) | (go_at_call 91; (with_reducible refine (HNU.out _).mono ?_); rintro e w1 ⟨rfl, x1, rfl⟩) | (go_at_call 89; (with_reducible refine (HBE.out _).mono ?_); rintro e w1 ⟨rfl, x1, rfl⟩))
        go_wp2_with (go_at_call 93; go_loud ((with_reducible refine (HW.out _ (gw2.trans (hgj.trans (by repeat (with_reducible first | assumption | exact grA | apply grB | apply grC | apply grD | refine grE ?_ (by omega) _ | refine grF ?_ (by omega) _ _))))).mono ?_); rintro r w5 ⟨rfl, hon⟩; replace hon := On1.fro (w := wr) hon (by repeat (with_reducible first | assumption | exact grA | apply grB | apply grC | apply grD | refine grE ?_ (by omega) _ | refine grF ?_ (by omega) _ _)); have v9 := (row_growV hon.gb zz9.1 (fun e => by injection e with e; omega)).trans zr9; have zv9 := row_sz' v9; rw [show (mkTk kd s).v = .agg #[.int .i64 kd, .string s, .int .i64 0, .int .i64 0, .bool false, .bool false] from rfl]))
        refine bodyPost_ret (tok_res rfl _ (w1 := w5) (b := b) kd s rfl v9 ?_) rfl ⟨rfl, tok_on (w1 := w5) (gw2.trans hgj) hon (Nat.le_of_eq hb) (by omega) kd s ?_⟩
        · exact (by repeat (with_reducible first | assumption | exact grA | apply grB | apply grC | apply grD | refine grE ?_ (by omega) _ | refine grF ?_ (by omega) _ _))
        · exact (by repeat (with_reducible first | assumption | exact grA | apply grB | apply grC | apply grD | refine grE ?_ (by omega) _ | refine grF ?_ (by omega) _ _))
end Go.Proofs.YthcaphoejplecaaGreatDoor

/- WALK over jalousieref3: Tokens. No condition but the class of characters and the table of kinds. -/
namespace Go.Proofs.YthcaphoejplecaaGreatDoor
open Go.RowKit
/-- a name's beginning -/
def Sta (l : List Int) : Prop := (97 ≤ chAt l 0 ∧ chAt l 0 ≤ 122) ∨ (chAt l 0 = 45 ∧ chAt l 1 = 45)
/-- characters and their tokens -/
inductive Lex : List Int → List Tk → Prop
  | nil : Lex [] []
  | space {l ts} : l.head? ≠ some 32 → Lex l ts → Lex (32 :: l) (mkTk 13 ⟨#[]⟩ :: ts)
  | single {k c kd l ts} : Sgl k c kd → Lex l ts → Lex (c :: l) (mkTk kd ⟨#[]⟩ :: ts)
  | ident {nm l ts} : nm ≠ [] → (∀ x ∈ nm, letC x = true) → Sta (nm ++ l) → (∀ x, l.head? = some x → letC x = false) → l.head? ≠ some 40 → Lex l ts → Lex (nm ++ l) (mkTk 1 (txt nm) :: ts)
  | func {nm l ts} : nm ≠ [] → (∀ x ∈ nm, letC x = true) → Sta (nm ++ 40 :: l) → ((lowS (txt nm)).toList == [117, 114, 108]) = false → Lex l ts → Lex (nm ++ 40 :: l) (mkTk 2 (txt nm) :: ts)
theorem Lex.len {l : List Int} {ts : List Tk} (h : Lex l ts) : ts.length ≤ l.length := by
  induction h with
  | nil => exact Nat.le_refl _
  | space _ _ ih => simp; omega
  | single _ _ ih => simp; omega
  | ident h _ _ _ _ _ ih => have := List.length_pos_iff.2 h; simp; omega
  | func h _ _ _ _ ih => simp; omega
theorem mkTk_wf {kd : Int} {s : ByteArray} (h1 : 0 ≤ kd ∧ kd ≤ 100) (h2 : s.size ≤ maxLen) : (mkTk kd s).Wf := ⟨⟨by show (_ : Int) ≤ kd; omega, by show kd ≤ _; omega⟩, h2, ⟨by show (_ : Int) ≤ 0; decide, by show (0 : Int) ≤ _; decide⟩, ⟨by show (_ : Int) ≤ 0; decide, by show (0 : Int) ≤ _; decide⟩⟩
theorem txt_size (L : List Int) : (txt L).size = L.length := by
  show ((bytesOf L).toArray).size = L.length
  simp [bytesOf]
theorem drop_tail {L : List Int} {i : Nat} {x : List Int} {l : List Int} (h : L.drop i = x ++ l) (hx : x ≠ []) : i + x.length ≤ L.length ∧ L.drop (i + x.length) = l := by
  have h1 := congrArg List.length h
  rw [List.length_drop, List.length_append] at h1
  have h2 := List.length_pos_iff.2 hx
  refine ⟨by omega, ?_⟩
  rw [← List.drop_drop, h, List.drop_append]
  simp
theorem xnext_any {g : Nat} {a : Option Addr} {cap : Nat} {L : List Int} {i : Nat} {t : Tk} {ts : List Tk} (hL : L.length ≤ 1000) (hx : Lex (L.drop i) (t :: ts)) :
    ∃ (i' : Nat) (kd : Int) (s : ByteArray), t = mkTk kd s ∧ t.Wf ∧ i' ≤ L.length ∧ Lex (L.drop i') ts ∧ chAt L i ≠ -1 ∧
      ∀ (w0 w : World), Rd w0 w g a cap L i → KindsAt w0 → Calls Tryz.prog 62 #[.pointer (some ⟨g, 0, none⟩)] w (fun e w' => e = .returned (mkTk kd s).v ∧ On1 w g a cap L.length i' w') := by
  have hat0 : ∀ l, L.drop i = l → chAt L i = chAt l 0 ∧ chAt L (i + 1) = chAt l 1 := fun l hl => ⟨by have := chAt_drop L i 0; rw [hl] at this; exact this, by rw [chAt_drop, hl]⟩
  generalize hd : L.drop i = l at hx
  obtain ⟨e0, e1⟩ := hat0 l hd
  cases hx with
  | @space l _ h1 h2 =>
    obtain ⟨q1, q2⟩ := drop_tail (x := [32]) hd (by simp)
    have c0 : chAt L i = 32 := e0
    have c1 : chAt L (i + 1) ≠ 32 := by
      rw [e1]
      cases l with
      | nil => decide
      | cons y l => intro e; exact h1 (by rw [show y = 32 from e]; rfl)
    exact ⟨i + 1, 13, ⟨#[]⟩, rfl, mkTk_wf ⟨by omega, by omega⟩ (by decide), q1, q2 ▸ h2, by rw [c0]; decide, fun w0 w h _ => xnext_space h c0 c1⟩
  | @single k c kd l _ h1 h2 =>
    obtain ⟨q1, q2⟩ := drop_tail (x := [c]) hd (by simp)
    have c0 : chAt L i = c := e0
    exact ⟨i + 1, kd, ⟨#[]⟩, rfl, mkTk_wf (by cases h1 <;> exact ⟨by omega, by omega⟩) (by decide), q1, q2 ▸ h2, by rw [c0]; cases h1 <;> decide, fun w0 w h hK => xnext_single h hK c0 h1⟩
  | @ident nm l _ h1 h2 h3 h4 h5 h6 =>
    obtain ⟨q1, q2⟩ := drop_tail hd h1
    have h3' : (97 ≤ chAt L i ∧ chAt L i ≤ 122) ∨ (chAt L i = 45 ∧ chAt L (i + 1) = 45) := by rw [e0, e1]; exact h3
    exact ⟨i + nm.length, 1, txt nm, rfl, mkTk_wf ⟨by omega, by omega⟩ (by rw [txt_size]; simp only [maxLen]; omega), q1, q2 ▸ h6, by omega, fun w0 w h _ => xnext_word h (fun W hg => xword_any (h.grows hg) hd h2 h1 h4 h5) h3'⟩
  | @func nm l _ h1 h2 h3 h4 h5 =>
    obtain ⟨q1, q2⟩ := drop_tail (x := nm ++ [40]) (l := l) (by rw [hd]; simp) (by simp)
    have h3' : (97 ≤ chAt L i ∧ chAt L i ≤ 122) ∨ (chAt L i = 45 ∧ chAt L (i + 1) = 45) := by rw [e0, e1]; exact h3
    have e : i + (nm ++ [40]).length = i + nm.length + 1 := by simp; omega
    rw [e] at q1 q2
    exact ⟨i + nm.length + 1, 2, txt nm, rfl, mkTk_wf ⟨by omega, by omega⟩ (by rw [txt_size]; simp only [maxLen]; omega), q1, q2 ▸ h5, by omega, fun w0 w h _ => xnext_word h (fun W hg => xfunc_any (h.grows hg) hd h2 h1 h4) h3'⟩
theorem mkRd {w W : World} {g : Nat} {a : Option Addr} {cap : Nat} {L : List Int} {i : Nat} (hL : SlAt w (fun b => b < w.heap.size) 1 RuR (.slice a L.length cap) L) (hg : w.grows W) (hr : W.row g = some (.cells #[.slice a L.length cap, .int .i64 i] 100)) (hlo : w.heap.size ≤ g) (hi : i ≤ L.length) (hlen : L.length ≤ 1000) : Rd w W g a cap L i :=
  ⟨hr, hL.keep (fun b hb hl => ⟨hg.row_eq hl, Nat.lt_of_lt_of_le hb hlo⟩) fun _ _ _ h => h, hi, hg, hlo, hlen⟩
set_option maxRecDepth 100000 in
set_option maxHeartbeats 8000000 in
theorem xtokens_any {w : World} {v : Value} {L : List Int} {all : List Tk} (hL : SlAt w (fun b => b < w.heap.size) 1 RuR v L) (hlen : L.length ≤ 1000) (hK : KindsAt w) (hx : Lex L all) :
    Calls Tryz.prog 40 #[v] w (fun e w' => ∃ r, e = .returned r ∧ w.grows w' ∧ TkO w' w.heap.size r all) := by
  obtain ⟨a, cap, rfl, -, -⟩ := SlAt.len hL
  have HL := Lib.hid hL
  have HK := Lib.hid hK
  have HX := Lib.hid hx
  have hal := hx.len
  clear hL hK hx
  go_enter Tryz.func40, Tryz.ntmps40
  go_wp2_with fail
  refine abs_rows (w := w) (G := fun W => Code.wp _ _ _ _ W) (by repeat (with_reducible first | assumption | exact grA | apply grB | apply grC | apply grD | refine grE ?_ (by omega) _ | refine grF ?_ (by omega) _ _)) [(w.heap.size, .cells #[.slice a L.length cap, .int .i64 ((0 : Nat) : Int)] 100)] (by simp [go_sem, *]) ?_
  intro w2 gw2 hl
  simp only [List.forall_mem_cons, List.not_mem_nil, false_implies, implies_true, and_true] at hl
  have x0 := hl
  have zx0 := row_sz' x0
  have hs2 := gw2.below.size
  have hlt2 := zx0.1
  have hg0 : w.heap.size ≤ w.heap.size := Nat.le_refl _
  generalize hb : w.heap.size = g at x0 zx0 hlt2
  go_loopg [3] all.length (fun gn v3 wj => ∃ (i : Nat) (out ts : List Tk) (a1 : Option Addr) (c1 : Nat), Hid (gn = ts.length ∧ out ++ ts = all ∧ Lex (L.drop i) ts ∧ i ≤ L.length) ∧ v3 = .slice a1 out.length c1 ∧ w2.heap.size ≤ wj.heap.size ∧ Hid (w.grows wj ∧ wj.row g = some (.cells #[.slice a L.length cap, .int .i64 i] 100) ∧ TkO wj w2.heap.size (.slice a1 out.length c1) out))
  case atStart => exact ⟨0, [], all, none, 0, Lib.hid ⟨rfl, rfl, HX.out, Nat.zero_le _⟩, rfl, by go_num, Lib.hid ⟨gw2, x0, TkO.nil _ _⟩⟩
  case round =>
    obtain ⟨i, out, ts, a1, c1, HQ, rfl, hsz, HS⟩ := hrel
    obtain ⟨q1, q2, q3, q4⟩ := HQ.out
    obtain ⟨hgj, hrow, hO⟩ := HS.out
    have hrd := mkRd HL.out hgj hrow (Nat.le_of_eq hb) q4 hlen
    have HO := Lib.hid hO
    have HRD := Lib.hid hrd
    have HRM := Lib.hid (fun (W : World) (hg : wr.grows W) => xremarks_any (hrd.grows hg))
    have H0 := Lib.hid (fun (W : World) (hg : wr.grows W) => xat0 (hrd.grows hg))
    have zr := row_sz' hrow
    have zrl := zr.1
    clear hO hrd HS
    cases ts with
    | nil =>
      have hnil : L.drop i = [] := by
        generalize L.drop i = l at q3
        cases q3; rfl
      have hc : chAt L i = -1 := chAt_end (by have := congrArg List.length hnil; simp at this; omega)
      rw [hc] at H0
      rw [List.append_nil] at q2
      subst q2
      clear hc hnil q3 q4 q1 hrow
      go_wp2_with (first | (go_at_call 61; (with_reducible refine (H0.out _ (hgr2.trans (by repeat (with_reducible first | assumption | exact grA | apply grB | apply grC | apply grD | refine grE ?_ (by omega) _ | refine grF ?_ (by omega) _ _)))).mono ?_); rintro e w1 ⟨rfl, x1, rfl⟩) | (go_at_call 60; go_loud ((with_reducible refine (HRM.out _ (by repeat (with_reducible first | assumption | exact grA | apply grB | apply grC | apply grD | refine grE ?_ (by omega) _ | refine grF ?_ (by omega) _ _))).mono ?_); rintro r w5 ⟨rfl, hgr2⟩; replace hgr2 : wr.grows w5 := World.grows.trans (by repeat (with_reducible first | assumption | exact grA | apply grB | apply grC | apply grD | refine grE ?_ (by omega) _ | refine grF ?_ (by omega) _ _)) hgr2)))
      go_ret
      refine ⟨_, rfl, hgj.trans (hgr2.trans (by repeat (with_reducible first | assumption | exact grA | apply grB | apply grC | apply grD | refine grE ?_ (by omega) _ | refine grF ?_ (by omega) _ _))), own_low hs2 (HO.out.1.grows (hgr2.trans (by repeat (with_reducible first | assumption | exact grA | apply grB | apply grC | apply grD | refine grE ?_ (by omega) _ | refine grF ?_ (by omega) _ _)))), HO.out.2⟩
    | cons t ts =>
      obtain ⟨i', kd, s, rfl, htw, hi', hlx, hne, hnx⟩ := xnext_any (g := g) (a := a) (cap := cap) hlen q3
      have HNX := Lib.hid (fun (W : World) (hg : wr.grows W) => hnx w W (HRD.out.grows hg) HK.out)
      have HTW := Lib.hid htw
      have HLX := Lib.hid hlx
      have hc : (chAt L i == -1) = false := by simpa using hne
      have hol : out.length ≤ 1000 := by have := congrArg List.length q2; simp at this; omega
      clear hnx htw hlx hne q3
      go_upto_region 6 with (first | (go_at_call 61; (with_reducible refine (H0.out _ (hgr2.trans (by repeat (with_reducible first | assumption | exact grA | apply grB | apply grC | apply grD | refine grE ?_ (by omega) _ | refine grF ?_ (by omega) _ _)))).mono ?_); rintro e w1 ⟨rfl, x1, rfl⟩) | (go_at_call 60; go_loud ((with_reducible refine (HRM.out _ (by repeat (with_reducible first | assumption | exact grA | apply grB | apply grC | apply grD | refine grE ?_ (by omega) _ | refine grF ?_ (by omega) _ _))).mono ?_); rintro r w5 ⟨rfl, hgr2⟩; replace hgr2 : wr.grows w5 := World.grows.trans (by repeat (with_reducible first | assumption | exact grA | apply grB | apply grC | apply grD | refine grE ?_ (by omega) _ | refine grF ?_ (by omega) _ _)) hgr2)))
      go_wp2_with (first | (go_at_call 62; go_loud ((with_reducible refine (HNX.out _ (hgr2.trans (by repeat (with_reducible first | assumption | exact grA | apply grB | apply grC | apply grD | refine grE ?_ (by omega) _ | refine grF ?_ (by omega) _ _)))).mono ?_); rintro r w6 ⟨rfl, hon⟩; replace hon := On1.fro (w := wr) hon (hgr2.trans (by repeat (with_reducible first | assumption | exact grA | apply grB | apply grC | apply grD | refine grE ?_ (by omega) _ | refine grF ?_ (by omega) _ _))); have hg6 : w.grows w6 := hgj.grown hon.gb (fun k e => by injection e with e; omega); have hs6 := hon.gb.size; have HO6 := Lib.hid (ownsRow_rowV HO.out.1 (fun b hb2 => row_growV hon.gb (HO.out.1.lt b hb2).2 (fun e => by injection e with e; have := (HO.out.1.lt b hb2).1; omega))); have y0 := hon.row; have zy0 := row_sz' y0; have mO : some g ≠ (Value.slice a1 out.length c1).ownBlock := (fun e => by have := (HO.out.1.lt g e.symm).1; omega); rw [show (mkTk kd s).v = .agg #[.int .i64 kd, .string s, .int .i64 0, .int .i64 0, .bool false, .bool false] from rfl])) | ((at_builtin; refine wpList_app w (w2.heap.size) rfl (.tmp 14) (.tmp 17) _ rfl 65 (.agg #[.int .i64 0, .string ByteArray.empty, .int .i64 0, .int .i64 0, .bool false, .bool false]) 6 48 Tryz.underlying27 (by kernel_rfl) rfl (by omega) (by omega) _ out.length _ rfl ((HO6.out.grows (by repeat (with_reducible first | assumption | exact grA | apply grB | apply grC | apply grD | refine grE ?_ (by omega) _ | refine grF ?_ (by omega) _ _)))) _ 1 _ [.int .i64 kd, .string s, .int .i64 0, .int .i64 0, .bool false, .bool false] rfl rfl (cells_of_row (e := 65) (fr := (0, 0)) (by simp [go_sem])) (by simp [Value.oneCell']) (by omega) (by repeat (with_reducible first | assumption | exact grA | apply grB | apply grC | apply grD | refine grE ?_ (by omega) _ | refine grF ?_ (by omega) _ _)) (by omega) (by first | omega | (simp <;> omega)) ?_; intro v' w' hg' HO' HR' HG' HA'); (obtain ⟨a9, c9, rfl⟩ := own_slice HO'.out; have z4 := rowG y0 HG'.out (by repeat (with_reducible first | assumption | exact grA | apply grB | apply grC | apply grD | refine grE ?_ (by omega) _ | refine grF ?_ (by omega) _ _)) mO; have hs9 := HG'.out.size)))
      have hszz : w2.heap.size ≤ w'.heap.size := Nat.le_trans hsz (Nat.le_trans hs6 (Nat.le_trans (World.grows.below (show w6.grows (w6.alloc _) from World.grows.alloc World.grows.refl _)).size hs9))
      go_roundg ts.length
      case measure => simp at q1; omega
      case rel =>
        refine ⟨i', out ++ [mkTk kd s], ts, a9, c9, Lib.hid ⟨rfl, by rw [← q2]; simp, HLX.out, hi'⟩, by simp, hszz, Lib.hid ⟨hg', z4, ?_, fun x hx => ?_⟩⟩
        · have h9 := HO'.out
          simp only [List.length_append, List.length_singleton, List.flatMap_append]
          exact h9
        · rcases List.mem_append.1 hx with hx | hx
          · exact HO.out.2 x hx
          · simp at hx; subst hx; exact HTW.out
end Go.Proofs.YthcaphoejplecaaGreatDoor

/- Texts of the walk, one after the other; what each proves stands ahead of it. -/
import Derived.Laws.Rows
import Derived.Test.YthcaphoejplecaaGreatDoorTk1
set_option linter.unusedSimpArgs false
set_option linter.unusedVariables false
/- WALKS over jalousieref3: the reader. No condition but the class of characters. -/
namespace Go
open Go.RowKit
/-- what stands at a place -/
def chAt (L : List Int) (i : Nat) : Int := (L[i]?).getD (-1)
theorem chAt_end {L : List Int} {i : Nat} (h : L.length ≤ i) : chAt L i = -1 := by unfold chAt; rw [List.getElem?_eq_none h]; rfl
theorem chAt_of {L : List Int} {i : Nat} {x : Int} (h : L[i]? = some x) : chAt L i = x := by unfold chAt; rw [h]; rfl
theorem chAt_ok {L : List Int} (hL : ∀ x ∈ L, OkC x) (i : Nat) : EndC (chAt L i) := by
  by_cases h : L.length ≤ i
  · exact .inl (chAt_end h)
  · rw [chAt_of (List.getElem?_eq_getElem (by omega))]
    exact .inr (hL _ (List.getElem_mem _))
theorem chAt_drop (L : List Int) (i k : Nat) : chAt L (i + k) = chAt (L.drop i) k := by unfold chAt; rw [List.getElem?_drop]
end Go
namespace Go.Proofs.YthcaphoejplecaaGreatDoor
open Go.RowKit
/-- the reader in memory: its object at g, its characters below, at the place i -/
structure Rd (w0 w : World) (g : Nat) (a : Option Addr) (cap : Nat) (L : List Int) (i : Nat) : Prop where
  row : w.row g = some (.cells #[.slice a L.length cap, .int .i64 i] 100)
  sl : SlAt w (fun b => b < g) 1 RuR (.slice a L.length cap) L
  le : i ≤ L.length
  base : w0.grows w
  lo : w0.heap.size ≤ g
  len : L.length ≤ 1000
theorem Rd.ok {w0 w : World} {g : Nat} {a : Option Addr} {cap : Nat} {L : List Int} {i : Nat} (h : Rd w0 w g a cap L i) : ∀ x ∈ L, OkC x := fun x hx => by
  obtain ⟨j, hj, rfl⟩ := List.mem_iff_getElem.1 hx
  obtain ⟨_, _, _, _, _, _, _, _, hk⟩ := h.sl.elt (List.getElem?_eq_getElem hj)
  exact hk
theorem Rd.keep {w0 w W : World} {g : Nat} {a : Option Addr} {cap : Nat} {L : List Int} {i i' : Nat} (h : Rd w0 w g a cap L i) (gb : w.grownBy W (some g)) (hr : W.row g = some (.cells #[.slice a L.length cap, .int .i64 i'] 100)) (hi : i' ≤ L.length) : Rd w0 W g a cap L i' :=
  ⟨hr, h.sl.keep (fun b hb hl => ⟨row_growV gb hl (fun e => by injection e with e; omega), hb⟩) fun _ _ _ h => h, hi, h.base.grown gb (fun k e => by injection e with e; rw [← e]; exact h.lo), h.lo, h.len⟩
theorem Rd.grows {w0 w W : World} {g : Nat} {a : Option Addr} {cap : Nat} {L : List Int} {i : Nat} (h : Rd w0 w g a cap L i) (hg : w.grows W) : Rd w0 W g a cap L i :=
  ⟨(hg.row_eq (row_sz' h.row).1).trans h.row, h.sl.grows hg fun _ _ _ h => h, h.le, h.base.trans hg, h.lo, h.len⟩
set_option maxRecDepth 100000 in
set_option maxHeartbeats 4000000 in
theorem xat_any {w0 w : World} {g : Nat} {a : Option Addr} {cap : Nat} {L : List Int} {i : Nat} (h : Rd w0 w g a cap L i) (k : Nat) (hk : k ≤ 3) :
    Calls Tryz.prog 61 #[.pointer (some ⟨g, 0, none⟩), .int .i64 k] w (Gives w (.int .i32 (chAt L (i + k)))) := by
  have x0 := h.row
  have hlen := h.len
  have hle := h.le
  have zx0 := row_sz' x0
  have HS := Lib.hid h.sl
  have HOK := Lib.hid (chAt_ok h.ok (i + k))
  have iw : IntKind.i64.wrap ((i : Int) + (k : Int)) = (i : Int) + (k : Int) := by rw [IntKind.wrap_i64]; omega
  have HE := Lib.hid (fun h => chAt_end (L := L) (i := i + k) h)
  have HG := Lib.hid (fun x h => chAt_of (L := L) (i := i + k) (x := x) h)
  clear h
  by_cases hge : L.length ≤ i + k
  · have e1 : (L.length : Int) ≤ (i : Int) + (k : Int) := by omega
    have HR := Lib.hid (HE.out hge)
    rw [HR.out]
    clear hge HOK
    go_enter Tryz.func61, Tryz.ntmps61
    go_upto_region 1 with fail
    refine wp_region_plus_lit (by kernel_rfl) (by kernel_rfl) ?_
    repeat (go_big_quiet_step (fail))
    (refine wpQuiet_nil ?_; intro _ hw'; obtain ⟨xq, hw''⟩ := hw'; subst hw'')
    go_wp2_with fail
    go_ret
    exact ⟨rfl, (by repeat (with_reducible first | assumption | exact grA | apply grB | apply grC | apply grD | refine grE ?_ (by omega) _ | refine grF ?_ (by omega) _ _))⟩
  · have e1 : ¬ (L.length : Int) ≤ (i : Int) + (k : Int) := by omega
    have e2 : (i : Int) + (k : Int) < (L.length : Int) := by omega
    have e3 : (0 : Int) ≤ (i : Int) + (k : Int) := by omega
    obtain ⟨x, hx⟩ : ∃ x, L[i + k]? = some x := ⟨_, List.getElem?_eq_getElem (by omega)⟩
    obtain ⟨gR, off, cs, rfl, -, -, k1, rfl, hok⟩ := HS.out.elt hx
    have z3 := lt_sz k1.lt
    have c0 := k1.cell (j := 0) rfl
    rw [World.cell?_row, Nat.add_zero, Nat.mul_one] at c0
    have en : ((i : Int) + (k : Int)).toNat = i + k := by omega
    have HR := Lib.hid (HG.out x hx)
    rw [HR.out]
    have hlo := hok.lo
    have HI := Lib.hid (fun (W : World) => xis_any x (by omega) (by omega) W)
    clear hx hok k1 HOK hge
    go_enter Tryz.func61, Tryz.ntmps61
    go_upto_region 1 with fail
    refine wp_region_plus_lit (by kernel_rfl) (by kernel_rfl) ?_
    repeat (go_big_quiet_step (fail))
    (refine wpQuiet_nil ?_; intro _ hw'; obtain ⟨xq, hw''⟩ := hw'; subst hw'')
    go_upto_region 3 with fail
    refine wp_region_plus_lit (by kernel_rfl) (by kernel_rfl) ?_
    repeat (go_big_quiet_step (fail))
    (refine wpQuiet_nil ?_; intro _ hw'; obtain ⟨xq, hw''⟩ := hw'; subst hw'')
    go_wp2_with ((go_at_call 83; (with_reducible refine (HI.out _).mono ?_); rintro e w1 ⟨rfl, x1, rfl⟩))
    go_ret
    exact ⟨rfl, (by repeat (with_reducible first | assumption | exact grA | apply grB | apply grC | apply grD | refine grE ?_ (by omega) _ | refine grF ?_ (by omega) _ _))⟩
section
variable {w0 w : World} {g : Nat} {a : Option Addr} {cap : Nat} {L : List Int} {i : Nat} (h : Rd w0 w g a cap L i)
include h
theorem xat0 : Calls Tryz.prog 61 #[.pointer (some ⟨g, 0, none⟩), .int .i64 0] w (Gives w (.int .i32 (chAt L i))) := by simpa using xat_any h 0 (by omega)
theorem xat1 : Calls Tryz.prog 61 #[.pointer (some ⟨g, 0, none⟩), .int .i64 1] w (Gives w (.int .i32 (chAt L (i + 1)))) := by simpa using xat_any h 1 (by omega)
theorem xat2 : Calls Tryz.prog 61 #[.pointer (some ⟨g, 0, none⟩), .int .i64 2] w (Gives w (.int .i32 (chAt L (i + 2)))) := by simpa using xat_any h 2 (by omega)
theorem xat3 : Calls Tryz.prog 61 #[.pointer (some ⟨g, 0, none⟩), .int .i64 3] w (Gives w (.int .i32 (chAt L (i + 3)))) := by simpa using xat_any h 3 (by omega)
end
end Go.Proofs.YthcaphoejplecaaGreatDoor

/- WALKS over jalousieref3: the reader goes on: no remark, a blank, a name. No condition but the class of characters. -/
namespace Go.Proofs.YthcaphoejplecaaGreatDoor
open Go.RowKit
theorem gby_cell (w : World) (g i : Nat) (v : Value) : w.grownBy (w.setCell ⟨g, i, none⟩ v) (some g) :=
  ⟨rfl, rfl, rfl, by simp [World.setCell], fun k hk hne => by
    have := World.row_setCell w g i k v
    rw [if_neg (fun e => hne (by rw [e]))] at this
    exact this⟩
set_option maxRecDepth 100000 in
theorem xremarks_any {w0 w : World} {g : Nat} {a : Option Addr} {cap : Nat} {L : List Int} {i : Nat} (h : Rd w0 w g a cap L i) :
    Calls Tryz.prog 60 #[.pointer (some ⟨g, 0, none⟩)] w (fun e w' => e = .returned (.tuple #[]) ∧ w.grows w') := by
  have H0 := Lib.hid (fun (W : World) (hg : w.grows W) => xat0 (h.grows hg))
  have hok := (chAt_ok h.ok i).ne
  have n47 : (chAt L i == 47) = false := by simpa using hok.2.2.2.2.2.2.2.2.2.2
  clear h hok
  go_enter Tryz.func60, Tryz.ntmps60
  go_wp2_with fail
  go_loopg [2] 0 (fun gn v2 wj => w.grows wj)
  case atStart => exact (by repeat (with_reducible first | assumption | exact grA | apply grB | apply grC | apply grD | refine grE ?_ (by omega) _ | refine grF ?_ (by omega) _ _))
  case round =>
    have hgj := hrel
    go_wp2_with ((go_at_call 61; (with_reducible refine (H0.out _ (hgj.trans (by repeat (with_reducible first | assumption | exact grA | apply grB | apply grC | apply grD | refine grE ?_ (by omega) _ | refine grF ?_ (by omega) _ _)))).mono ?_); rintro e w1 ⟨rfl, x1, rfl⟩))
    refine bodyPost_end (results_none rfl _ _ _) rfl ⟨rfl, hgj.trans (by repeat (with_reducible first | assumption | exact grA | apply grB | apply grC | apply grD | refine grE ?_ (by omega) _ | refine grF ?_ (by omega) _ _))⟩
/-- the reader went on -/
structure On1 (w : World) (g : Nat) (a : Option Addr) (cap n : Nat) (i : Nat) (W : World) : Prop where
  gb : w.grownBy W (some g)
  row : W.row g = some (.cells #[.slice a n cap, .int .i64 i] 100)
theorem Rd.on {w0 w W : World} {g : Nat} {a : Option Addr} {cap : Nat} {L : List Int} {i i' : Nat} (h : Rd w0 w g a cap L i) (o : On1 w g a cap L.length i' W) (hi : i' ≤ L.length) : Rd w0 W g a cap L i' := h.keep o.gb o.row hi
theorem Rd.here {w0 w W : World} {g : Nat} {a : Option Addr} {cap : Nat} {L : List Int} {i : Nat} (h : Rd w0 w g a cap L i) (hg : w.grows W) : On1 w g a cap L.length i W := ⟨grownBy_of_grows hg _, (hg.row_eq (row_sz' h.row).1).trans h.row⟩
/-- the place set on in a world that grew -/
theorem on_step {w W : World} {g : Nat} {a : Option Addr} {cap n : Nat} {i0 : Int} (gb : w.grownBy W (some g)) (hr : W.row g = some (.cells #[.slice a n cap, .int .i64 i0] 100)) (j : Int) (k : Nat) (e : j = k) : On1 w g a cap n k (W.setCell ⟨g, 1, none⟩ (.int .i64 j)) := by
  subst e
  refine ⟨grownBy_trans gb (gby_cell W g 1 _) (fun k e => .inl e), ?_⟩
  rw [World.row_setCell, if_pos rfl, hr]
  rfl
theorem On1.trans {w W W' : World} {g : Nat} {a : Option Addr} {cap n i i' : Nat} (h : On1 w g a cap n i W) (h2 : On1 W g a cap n i' W') : On1 w g a cap n i' W' :=
  ⟨grownBy_trans h.gb h2.gb (fun k e => .inl e), h2.row⟩
theorem On1.more {w W W' : World} {g : Nat} {a : Option Addr} {cap n i : Nat} (h : On1 w g a cap n i W) (hg : W.grows W') : On1 w g a cap n i W' :=
  ⟨grownBy_trans h.gb (grownBy_of_grows hg none) (fun k e => by cases e), (hg.row_eq (row_sz' h.row).1).trans h.row⟩
set_option maxRecDepth 100000 in
set_option maxHeartbeats 4000000 in
theorem xblanks_any {w0 w : World} {g : Nat} {a : Option Addr} {cap : Nat} {L : List Int} {i : Nat} (h : Rd w0 w g a cap L i) (h1 : chAt L i = 32) (h2 : chAt L (i + 1) ≠ 32) :
    Calls Tryz.prog 85 #[.pointer (some ⟨g, 0, none⟩)] w (fun e w' => e = .returned (.tuple #[]) ∧ On1 w g a cap L.length (i + 1) w') := by
  have hi : i + 1 ≤ L.length := by
    by_cases hh : L.length ≤ i
    · rw [chAt_end hh] at h1; cases h1
    · omega
  have hlen := h.len
  have hok2 := chAt_ok h.ok (i + 1)
  have hb2 : blaC (chAt L (i + 1)) = false := by
    have := hok2.ne
    unfold blaC
    simp [this.2.2.2.1, this.2.2.2.2.1, h2]
  have hlo2 : -1 ≤ chAt L (i + 1) ∧ chAt L (i + 1) < 128 := by unfold EndC OkC at hok2; omega
  have HB1 := Lib.hid (fun (W : World) => xblank_any 32 (by omega) (by omega) W)
  have HB2 := Lib.hid (fun (W : World) => xblank_any (chAt L (i + 1)) hlo2.1 hlo2.2 W)
  rw [hb2] at HB2
  have HRD := Lib.hid h
  have HC1 := Lib.hid h1
  clear h hok2 hb2 hlo2 h1 h2
  go_enter Tryz.func85, Tryz.ntmps85
  go_wp2_with fail
  go_loopg [2] 1 (fun gn v2 wj => ∃ j : Nat, Hid (gn + j = 1) ∧ On1 w g a cap L.length (i + j) wj)
  case atStart => exact ⟨0, Lib.hid (by omega), HRD.out.here (by repeat (with_reducible first | assumption | exact grA | apply grB | apply grC | apply grD | refine grE ?_ (by omega) _ | refine grF ?_ (by omega) _ _))⟩
  case round =>
    obtain ⟨j, HQ, hon⟩ := hrel
    have hj := HQ.out
    have hrd := HRD.out.on hon (by omega)
    have H0 := Lib.hid (fun (W : World) (hg : wr.grows W) => xat0 (hrd.grows hg))
    have x0 := hrd.row
    have zx0 := row_sz' x0
    have HW := Lib.hid hrd
    clear hrd
    by_cases h0 : j = 0
    · subst h0
      rw [Nat.add_zero, HC1.out] at H0
      have iw : IntKind.i64.wrap ((i : Int) + 1) = (i : Int) + 1 := by rw [IntKind.wrap_i64]; omega
      rw [Nat.add_zero] at x0
      go_wp2_with (first | (go_at_call 61; (with_reducible refine (H0.out _ (by repeat (with_reducible first | assumption | exact grA | apply grB | apply grC | apply grD | refine grE ?_ (by omega) _ | refine grF ?_ (by omega) _ _))).mono ?_); rintro e w1 ⟨rfl, x1, rfl⟩) | (go_at_call 84; (with_reducible refine (HB1.out _).mono ?_); rintro e w1 ⟨rfl, x1, rfl⟩))
      go_roundg 0
      case measure => omega
      case rel =>
        refine ⟨1, Lib.hid (by omega), hon.trans ?_⟩
        exact On1.more (W := wr.setCell ⟨g, 1, none⟩ (.int .i64 ((i : Int) + 1))) (on_step (grownBy_of_grows World.grows.refl _) x0 _ _ (by omega)) (by repeat (with_reducible first | assumption | exact grA | apply grB | apply grC | apply grD | refine grE ?_ (by omega) _ | refine grF ?_ (by omega) _ _))
    · obtain rfl : j = 1 := by omega
      go_wp2_with (first | (go_at_call 61; (with_reducible refine (H0.out _ (by repeat (with_reducible first | assumption | exact grA | apply grB | apply grC | apply grD | refine grE ?_ (by omega) _ | refine grF ?_ (by omega) _ _))).mono ?_); rintro e w1 ⟨rfl, x1, rfl⟩) | (go_at_call 84; (with_reducible refine (HB2.out _).mono ?_); rintro e w1 ⟨rfl, x1, rfl⟩))
      refine bodyPost_end (results_none rfl _ _ _) rfl ⟨rfl, hon.trans (HW.out.here (by repeat (with_reducible first | assumption | exact grA | apply grB | apply grC | apply grD | refine grE ?_ (by omega) _ | refine grF ?_ (by omega) _ _)))⟩
set_option maxRecDepth 100000 in
set_option maxHeartbeats 4000000 in
theorem xname_any {w0 w : World} {g : Nat} {a : Option Addr} {cap : Nat} {L nm rest : List Int} {i : Nat} (h : Rd w0 w g a cap L i) (hd : L.drop i = nm ++ rest) (hn : ∀ x ∈ nm, letC x = true) (hne : nm ≠ []) (hr : ∀ x, rest.head? = some x → letC x = false) :
    Calls Tryz.prog 90 #[.pointer (some ⟨g, 0, none⟩)] w (fun e w' => e = .returned (.string (txt nm)) ∧ On1 w g a cap L.length (i + nm.length) w') := by
  have hlen := h.len
  have hle := h.le
  have hsum : i + nm.length ≤ L.length := by
    have := congrArg List.length hd
    rw [List.length_drop, List.length_append] at this
    omega
  have hokn : ∀ x ∈ nm, OkC x := fun x hx => h.ok x (List.mem_of_mem_drop (i := i) (by rw [hd]; exact List.mem_append_left _ hx))
  have hat : ∀ j, chAt L (i + j) = chAt (nm ++ rest) j := fun j => by rw [chAt_drop, hd]
  have hstop : chAt L (i + nm.length) = -1 ∨ letC (chAt L (i + nm.length)) = false := by
    rw [hat]
    cases hrr : rest with
    | nil => exact .inl (by rw [List.append_nil]; exact chAt_end (Nat.le_refl _))
    | cons y r =>
      refine .inr ?_
      rw [chAt_of (x := y) (by rw [List.getElem?_append_right (Nat.le_refl _)]; simp)]
      exact hr y (by rw [hrr]; rfl)
  have hgo : ∀ j x, nm[j]? = some x → chAt L (i + j) = x := fun j x hx => by
    rw [hat]
    exact chAt_of (by rw [List.getElem?_append_left (List.getElem?_eq_some_iff.1 hx).1]; exact hx)
  have hokS := chAt_ok h.ok (i + nm.length)
  have HRD := Lib.hid h
  have HN := Lib.hid hn
  have HGO := Lib.hid hgo
  have HST := Lib.hid hstop
  have HOK := Lib.hid hokn
  have HOS := Lib.hid hokS
  have hgs := (row_sz' h.row).1
  clear h hd hn hr hokn hat hstop hgo hokS
  go_enter Tryz.func90, Tryz.ntmps90
  go_wp2_with fail
  go_loopg [3] nm.length (fun gn v3 wj => ∃ (j : Nat) (a1 : Option Addr) (c1 : Nat), Hid (gn + j = nm.length ∧ j ≤ nm.length) ∧ v3 = .slice a1 j c1 ∧ On1 w g a cap L.length (i + j) wj ∧ Hid (wj.ownsRow w.heap.size 21 1 (.slice a1 j c1) j (i32c (nm.take j))))
  case atStart => exact ⟨0, none, 0, Lib.hid ⟨by simp, Nat.zero_le _⟩, rfl, HRD.out.here (by repeat (with_reducible first | assumption | exact grA | apply grB | apply grC | apply grD | refine grE ?_ (by omega) _ | refine grF ?_ (by omega) _ _)), Lib.hid (by simpa [i32c] using World.ownsRow_nil _ _ _ _)⟩
  case round =>
    obtain ⟨j, a1, c1, HQ, rfl, hon, HO⟩ := hrel
    obtain ⟨j1, j2⟩ := HQ.out
    have hrd := HRD.out.on hon (by omega)
    have H0 := Lib.hid (fun (W : World) (hg : wr.grows W) => xat0 (hrd.grows hg))
    have H1 := Lib.hid (fun (W : World) (hg : wr.grows W) => xat1 (hrd.grows hg))
    have x0 := hrd.row
    have zx0 := row_sz' x0
    have hlo := hrd.lo
    have hbs := hrd.base
    have hs := hon.gb.size
    have HW := Lib.hid hrd
    clear hrd
    by_cases hlt : j < nm.length
    · obtain ⟨x, hx⟩ : ∃ x, nm[j]? = some x := ⟨_, List.getElem?_eq_getElem hlt⟩
      have hok := HOK.out x (List.mem_of_getElem? hx)
      have hl := hok.lo
      rw [HGO.out j x hx] at H0
      have HL := Lib.hid (fun (W : World) => xletter_any x (by omega) (by omega) W)
      rw [HN.out x (List.mem_of_getElem? hx)] at HL
      have n1 : (x == -1) = false := by simp; omega
      have HX := Lib.hid (show nm.take (j + 1) = nm.take j ++ [x] by rw [List.take_add_one, hx]; rfl)
      have mO : some g ≠ (Value.slice a1 j c1).ownBlock := fun e => by have := (HO.out.lt g e.symm).1; omega
      have iw : IntKind.i64.wrap (((i + j : Nat) : Int) + 1) = ((i + j : Nat) : Int) + 1 := by rw [IntKind.wrap_i64]; omega
      clear hx hok
      go_wp2_with (first | (go_at_call 61; (with_reducible refine (H0.out _ (by repeat (with_reducible first | assumption | exact grA | apply grB | apply grC | apply grD | refine grE ?_ (by omega) _ | refine grF ?_ (by omega) _ _))).mono ?_); rintro e w1 ⟨rfl, x1, rfl⟩) | (go_at_call 87; (with_reducible refine (HL.out _).mono ?_); rintro e w1 ⟨rfl, x1, rfl⟩) | ((at_builtin; refine wpList_app w0 (w.heap.size) rfl (.tmp 16) (.tmp 18) _ rfl 21 (.int .i32 0) 1 4 Tryz.underlying77 (by kernel_rfl) rfl (by omega) (by omega) _ j _ rfl ((HO.out.grows (by repeat (with_reducible first | assumption | exact grA | apply grB | apply grC | apply grD | refine grE ?_ (by omega) _ | refine grF ?_ (by omega) _ _)))) _ 1 _ [.int .i32 x] rfl rfl (cells_of_row (e := 21) (fr := (0, 0)) (by simp [go_sem])) (by simp [Value.oneCell']) (by omega) (by repeat (with_reducible first | assumption | exact grA | apply grB | apply grC | apply grD | refine grE ?_ (by omega) _ | refine grF ?_ (by omega) _ _)) (by omega) (by first | omega | (simp <;> omega)) ?_; intro v' w' hg' HO' HR' HG' HA'); (obtain ⟨a9, c9, rfl⟩ := own_slice HO'.out; have z4 := rowG x0 HG'.out (by repeat (with_reducible first | assumption | exact grA | apply grB | apply grC | apply grD | refine grE ?_ (by omega) _ | refine grF ?_ (by omega) _ _)) mO; have zz4 := row_sz' z4)))
      go_roundg (nm.length - (j + 1))
      case measure => omega
      case rel =>
        refine ⟨j + 1, a9, c9, Lib.hid ⟨by omega, by omega⟩, rfl, ?_, Lib.hid ?_⟩
        · exact on_step (grownBy_trans (grownBy_trans hon.gb (grownBy_of_grows (show World.grows wr _ from (by repeat (with_reducible first | assumption | exact grA | apply grB | apply grC | apply grD | refine grE ?_ (by omega) _ | refine grF ?_ (by omega) _ _))) none) (fun k e => by cases e)) HG'.out (fun k e => .inr (HO.out.lt k e).1)) z4 _ _ (by omega)
        · rw [HX.out]
          have h9 := HO'.out
          rw [show i32c (nm.take j ++ [x]) = i32c (nm.take j) ++ [.int .i32 x] by simp [i32c]]
          exact ownsRow_rowV h9 fun b hb => by
            rw [World.row_setCell, if_neg (fun e => by have := (h9.lt b hb).1; omega)]
    · obtain rfl : j = nm.length := by omega
      have HT := Lib.hid (fun (W : World) (hg : wr.grows W) => xtext_any ((RuO.slAt (B := w.heap.size) (S := fun _ => True) (L := nm) (by
        have := HO.out
        rw [List.take_length] at this
        exact this.grows hg) HOK.out fun _ _ _ => trivial)) (by omega) hne HOK.out)
      rcases HST.out with hst | hst
      · rw [hst] at H0 HOS
        go_wp2_with (first | (go_at_call 61; (with_reducible refine (H0.out _ (by repeat (with_reducible first | assumption | exact grA | apply grB | apply grC | apply grD | refine grE ?_ (by omega) _ | refine grF ?_ (by omega) _ _))).mono ?_); rintro e w1 ⟨rfl, x1, rfl⟩) | (go_at_call 61; (with_reducible refine (H1.out _ (by repeat (with_reducible first | assumption | exact grA | apply grB | apply grC | apply grD | refine grE ?_ (by omega) _ | refine grF ?_ (by omega) _ _))).mono ?_); rintro e w1 ⟨rfl, x1, rfl⟩) | (go_at_call 88; (with_reducible refine (xescape_any _ _ (by decide) _).mono ?_); rintro e w1 ⟨rfl, x1, rfl⟩) | (go_at_call 94; (with_reducible refine (HT.out _ (by repeat (with_reducible first | assumption | exact grA | apply grB | apply grC | apply grD | refine grE ?_ (by omega) _ | refine grF ?_ (by omega) _ _))).mono ?_); rintro e w1 ⟨rfl, x1, rfl⟩))
        go_ret
        exact ⟨rfl, hon.trans (HW.out.here (by repeat (with_reducible first | assumption | exact grA | apply grB | apply grC | apply grD | refine grE ?_ (by omega) _ | refine grF ?_ (by omega) _ _)))⟩
      · have hok := HOS.out
        have hlo2 : -1 ≤ chAt L (i + nm.length) ∧ chAt L (i + nm.length) < 128 := by unfold EndC OkC at hok; omega
        have hn92 := hok.ne.1
        have HL := Lib.hid (fun (W : World) => xletter_any (chAt L (i + nm.length)) hlo2.1 hlo2.2 W)
        rw [hst] at HL
        clear hst hok
        by_cases h1 : chAt L (i + nm.length) = -1
        · rw [h1] at H0
          go_wp2_with (first | (go_at_call 61; (with_reducible refine (H0.out _ (by repeat (with_reducible first | assumption | exact grA | apply grB | apply grC | apply grD | refine grE ?_ (by omega) _ | refine grF ?_ (by omega) _ _))).mono ?_); rintro e w1 ⟨rfl, x1, rfl⟩) | (go_at_call 61; (with_reducible refine (H1.out _ (by repeat (with_reducible first | assumption | exact grA | apply grB | apply grC | apply grD | refine grE ?_ (by omega) _ | refine grF ?_ (by omega) _ _))).mono ?_); rintro e w1 ⟨rfl, x1, rfl⟩) | (go_at_call 88; (with_reducible refine (xescape_any _ _ (by decide) _).mono ?_); rintro e w1 ⟨rfl, x1, rfl⟩) | (go_at_call 94; (with_reducible refine (HT.out _ (by repeat (with_reducible first | assumption | exact grA | apply grB | apply grC | apply grD | refine grE ?_ (by omega) _ | refine grF ?_ (by omega) _ _))).mono ?_); rintro e w1 ⟨rfl, x1, rfl⟩))
          go_ret
          exact ⟨rfl, hon.trans (HW.out.here (by repeat (with_reducible first | assumption | exact grA | apply grB | apply grC | apply grD | refine grE ?_ (by omega) _ | refine grF ?_ (by omega) _ _)))⟩
        · have n1 : (chAt L (i + nm.length) == -1) = false := by simpa using h1
          go_wp2_with (first | (go_at_call 61; (with_reducible refine (H0.out _ (by repeat (with_reducible first | assumption | exact grA | apply grB | apply grC | apply grD | refine grE ?_ (by omega) _ | refine grF ?_ (by omega) _ _))).mono ?_); rintro e w1 ⟨rfl, x1, rfl⟩) | (go_at_call 61; (with_reducible refine (H1.out _ (by repeat (with_reducible first | assumption | exact grA | apply grB | apply grC | apply grD | refine grE ?_ (by omega) _ | refine grF ?_ (by omega) _ _))).mono ?_); rintro e w1 ⟨rfl, x1, rfl⟩) | (go_at_call 87; (with_reducible refine (HL.out _).mono ?_); rintro e w1 ⟨rfl, x1, rfl⟩) | (go_at_call 88; (with_reducible refine (xescape_any _ _ hn92 _).mono ?_); rintro e w1 ⟨rfl, x1, rfl⟩) | (go_at_call 94; (with_reducible refine (HT.out _ (by repeat (with_reducible first | assumption | exact grA | apply grB | apply grC | apply grD | refine grE ?_ (by omega) _ | refine grF ?_ (by omega) _ _))).mono ?_); rintro e w1 ⟨rfl, x1, rfl⟩))
          go_ret
          exact ⟨rfl, hon.trans (HW.out.here (by repeat (with_reducible first | assumption | exact grA | apply grB | apply grC | apply grD | refine grE ?_ (by omega) _ | refine grF ?_ (by omega) _ _)))⟩
end Go.Proofs.YthcaphoejplecaaGreatDoor

/- WALKS over jalousieref3: a word. No condition but the class of characters. -/
namespace Go
open Go.RowKit
theorem low_url : lowS ⟨#[117, 114, 108]⟩ = ⟨#[117, 114, 108]⟩ := rfl
/-- a token of a kind and a text -/
def mkTk (k : Int) (s : ByteArray) : Tk := ⟨k, s, 0, 0, false, false⟩
end Go
namespace Go.Proofs.YthcaphoejplecaaGreatDoor
open Go.RowKit
abbrev zeroA : Array Value := #[.int .i64 0, .string ⟨#[]⟩, .int .i64 0, .int .i64 0, .bool false, .bool false]
theorem gby_lay (g : Nat) : ∀ (vs : List Value) (o : Nat) (w : World), w.grownBy (w.setCells g o vs) (some g)
  | [], _, w => World.grownBy.refl w _
  | v :: r, o, w => (gby_cell w g o v).trans (gby_lay g r (o + 1) _)
theorem six_eq (w1 : World) (b : Nat) (k : Int) (s : ByteArray) : ((((((w1.setCell ⟨b, 0, none⟩ (.int .i64 k)).setCell ⟨b, 1, none⟩ (.string s)).setCell ⟨b, 2, none⟩ (.int .i64 0)).setCell ⟨b, 3, none⟩ (.int .i64 0)).setCell ⟨b, 4, none⟩ (.bool false)).setCell ⟨b, 5, none⟩ (.bool false)) = w1.setCells b 0 [.int .i64 k, .string s, .int .i64 0, .int .i64 0, .bool false, .bool false] := rfl
theorem tok_row {w1 W : World} {b : Nat} (k : Int) (s : ByteArray) (y : w1.row b = some (.cells zeroA 65)) (hg : ((((((w1.setCell ⟨b, 0, none⟩ (.int .i64 k)).setCell ⟨b, 1, none⟩ (.string s)).setCell ⟨b, 2, none⟩ (.int .i64 0)).setCell ⟨b, 3, none⟩ (.int .i64 0)).setCell ⟨b, 4, none⟩ (.bool false)).setCell ⟨b, 5, none⟩ (.bool false)).grows W) : W.heap[b]? = some (.cells (mkTk k s).cs.toArray 65) := by
  rw [six_eq] at hg
  have h := row_layV b (mkTk k s).cs 0 w1 _ _ _ y (by simp)
  have h2 := (hg.row_eq (row_sz' h).1).trans h
  exact h2
theorem tok_res {fn : Func} {p : Tmp} (h : fn.results = #[.cell p 65]) (tmps : Array Value) {w1 W : World} {b : Nat} (k : Int) (s : ByteArray) (hp : tmps.getD p undef = .pointer (some ⟨b, 0, none⟩)) (y : w1.row b = some (.cells zeroA 65)) (hg : ((((((w1.setCell ⟨b, 0, none⟩ (.int .i64 k)).setCell ⟨b, 1, none⟩ (.string s)).setCell ⟨b, 2, none⟩ (.int .i64 0)).setCell ⟨b, 3, none⟩ (.int .i64 0)).setCell ⟨b, 4, none⟩ (.bool false)).setCell ⟨b, 5, none⟩ (.bool false)).grows W) : (results fn tmps).run Tryz.prog W = .ok (mkTk k s).v W :=
  results_cell_row h tmps W b 65 (mkTk k s).cs.toArray (0, 0) _ hp (tok_row k s y hg) Tryz.underlying65 rfl (by kernel_rfl)
theorem tok_on {w w2 w1 W : World} {g b : Nat} {a : Option Addr} {cap n i : Nat} (hg2 : w.grows w2) (hon : On1 w2 g a cap n i w1) (hb : w.heap.size ≤ b) (hgb : g ≠ b) (k : Int) (s : ByteArray) (hg : ((((((w1.setCell ⟨b, 0, none⟩ (.int .i64 k)).setCell ⟨b, 1, none⟩ (.string s)).setCell ⟨b, 2, none⟩ (.int .i64 0)).setCell ⟨b, 3, none⟩ (.int .i64 0)).setCell ⟨b, 4, none⟩ (.bool false)).setCell ⟨b, 5, none⟩ (.bool false)).grows W) : On1 w g a cap n i W := by
  rw [six_eq] at hg
  refine On1.more ⟨grownBy_trans (grownBy_trans (grownBy_of_grows hg2 (some g)) hon.gb (fun k e => .inl e)) (gby_lay b (mkTk k s).cs 0 w1) (fun k e => ?_), ?_⟩ hg
  · injection e with e; subst e; exact .inr hb
  · rw [row_layVO b g hgb]; exact hon.row
set_option maxRecDepth 100000 in
theorem xlikeurl_any (s : ByteArray) (hs : s.size ≤ maxLen) (w : World) : Calls Tryz.prog 64 #[.string s, .string ⟨#[117, 114, 108]⟩] w (Gives w (.bool ((lowS s).toList == [117, 114, 108]))) := by
  have HL := Lib.hid (fun (W : World) => flower_any s hs W)
  have HV := Lib.hid (fun (W : World) => flower_any ⟨#[117, 114, 108]⟩ (by decide) W)
  rw [low_url] at HV
  generalize lowS s = q at *
  go_enter Tryz.func64, Tryz.ntmps64
  go_wp2_with (first | (go_at_call 96; (with_reducible refine (HL.out _).mono ?_); rintro e w1 ⟨rfl, x1, rfl⟩) | (go_at_call 96; (with_reducible refine (HV.out _).mono ?_); rintro e w1 ⟨rfl, x1, rfl⟩))
  go_ret
  exact ⟨rfl, (by repeat (with_reducible first | assumption | exact grA | apply grB | apply grC | apply grD | refine grE ?_ (by omega) _ | refine grF ?_ (by omega) _ _))⟩
set_option maxRecDepth 100000 in
set_option maxHeartbeats 4000000 in
theorem xword_any {w0 w : World} {g : Nat} {a : Option Addr} {cap : Nat} {L nm rest : List Int} {i : Nat} (h : Rd w0 w g a cap L i) (hd : L.drop i = nm ++ rest) (hn : ∀ x ∈ nm, letC x = true) (hne : nm ≠ []) (hr : ∀ x, rest.head? = some x → letC x = false) (h40 : rest.head? ≠ some 40) :
    Calls Tryz.prog 93 #[.pointer (some ⟨g, 0, none⟩)] w (fun e w' => e = .returned (mkTk 1 (txt nm)).v ∧ On1 w g a cap L.length (i + nm.length) w') := by
  have HN := Lib.hid (fun (W : World) (hg : w.grows W) => xname_any (h.grows hg) hd hn hne hr)
  have hsum : i + nm.length ≤ L.length := by
    have := congrArg List.length hd
    rw [List.length_drop, List.length_append] at this
    have := h.le
    omega
  have hat : (chAt L (i + nm.length) == 40) = false := by
    rw [chAt_drop, hd]
    cases hrr : rest with
    | nil => rw [List.append_nil, chAt_end (Nat.le_refl _)]; rfl
    | cons y r =>
      rw [chAt_of (x := y) (by rw [List.getElem?_append_right (Nat.le_refl _)]; simp)]
      rw [hrr] at h40
      simpa using h40
  have x0 := h.row
  have zx0 := row_sz' x0
  have HRD := Lib.hid h
  clear h hd hn hr h40
  go_enter Tryz.func93, Tryz.ntmps93
  go_upto_region 1 with fail
  refine abs_rows (w := w) (G := fun W => Code.wp _ _ _ _ W) (by repeat (with_reducible first | assumption | exact grA | apply grB | apply grC | apply grD | refine grE ?_ (by omega) _ | refine grF ?_ (by omega) _ _)) [(w.heap.size, .cells #[.int .i64 0, .string ⟨#[]⟩, .int .i64 0, .int .i64 0, .bool false, .bool false] 65)] (by simp [go_sem, *]) ?_
  intro w2 gw2 hl
  simp only [List.forall_mem_cons, List.not_mem_nil, false_implies, implies_true, and_true] at hl
  have x9 := hl
  have zx9 := row_sz' x9
  go_upto_region 2 with (go_at_call 90; go_loud ((with_reducible refine (HN.out _ (gw2.trans (by repeat (with_reducible first | assumption | exact grA | apply grB | apply grC | apply grD | refine grE ?_ (by omega) _ | refine grF ?_ (by omega) _ _)))).mono ?_); rintro r w1 ⟨rfl, hon⟩))
  have hrd := (HRD.out.grows gw2).on hon hsum
  have H0 := Lib.hid (fun (W : World) (hg : w1.grows W) => xat0 (hrd.grows hg))
  have y9 := (row_growV hon.gb zx9.1 (fun e => by injection e with e; omega)).trans x9
  have zy9 := row_sz' y9
  have hlt := zx0.1
  generalize hb : w.heap.size = b at *
  go_wp2_with ((go_at_call 61; (with_reducible refine (H0.out _ (by repeat (with_reducible first | assumption | exact grA | apply grB | apply grC | apply grD | refine grE ?_ (by omega) _ | refine grF ?_ (by omega) _ _))).mono ?_); rintro e w1 ⟨rfl, x1, rfl⟩))
  refine bodyPost_ret (tok_res rfl _ (w1 := w1) (b := b) 1 (txt nm) rfl y9 ?_) rfl ⟨rfl, tok_on (w1 := w1) gw2 hon (Nat.le_of_eq hb) (by omega) 1 (txt nm) ?_⟩
  · exact (by repeat (with_reducible first | assumption | exact grA | apply grB | apply grC | apply grD | refine grE ?_ (by omega) _ | refine grF ?_ (by omega) _ _))
  · exact (by repeat (with_reducible first | assumption | exact grA | apply grB | apply grC | apply grD | refine grE ?_ (by omega) _ | refine grF ?_ (by omega) _ _))
set_option maxRecDepth 100000 in
set_option maxHeartbeats 4000000 in
theorem xfunc_any {w0 w : World} {g : Nat} {a : Option Addr} {cap : Nat} {L nm rest : List Int} {i : Nat} (h : Rd w0 w g a cap L i) (hd : L.drop i = nm ++ 40 :: rest) (hn : ∀ x ∈ nm, letC x = true) (hne : nm ≠ []) (hurl : ((lowS (txt nm)).toList == [117, 114, 108]) = false) :
    Calls Tryz.prog 93 #[.pointer (some ⟨g, 0, none⟩)] w (fun e w' => e = .returned (mkTk 2 (txt nm)).v ∧ On1 w g a cap L.length (i + nm.length + 1) w') := by
  have HN := Lib.hid (fun (W : World) (hg : w.grows W) => xname_any (h.grows hg) hd hn hne (fun x hx => by injection hx with e; subst e; decide))
  have hsum : i + nm.length + 1 ≤ L.length := by
    have := congrArg List.length hd
    rw [List.length_drop, List.length_append, List.length_cons] at this
    have := h.le
    omega
  have hat : chAt L (i + nm.length) = 40 := by
    rw [chAt_drop, hd]
    exact chAt_of (by rw [List.getElem?_append_right (Nat.le_refl _)]; simp)
  have hlen := h.len
  have hsz : (txt nm).size ≤ maxLen := by
    show ((bytesOf nm).toArray).size ≤ maxLen
    have := h.len
    simp [bytesOf, maxLen]
    omega
  have HU := Lib.hid (fun (W : World) => xlikeurl_any (txt nm) hsz W)
  rw [hurl] at HU
  have x0 := h.row
  have zx0 := row_sz' x0
  have HRD := Lib.hid h
  have HAT := Lib.hid hat
  clear h hd hn hurl hat hsz
  generalize i + nm.length = q at *
  go_enter Tryz.func93, Tryz.ntmps93
  go_upto_region 1 with fail
  refine abs_rows (w := w) (G := fun W => Code.wp _ _ _ _ W) (by repeat (with_reducible first | assumption | exact grA | apply grB | apply grC | apply grD | refine grE ?_ (by omega) _ | refine grF ?_ (by omega) _ _)) [(w.heap.size, .cells #[.int .i64 0, .string ⟨#[]⟩, .int .i64 0, .int .i64 0, .bool false, .bool false] 65)] (by simp [go_sem, *]) ?_
  intro w2 gw2 hl
  simp only [List.forall_mem_cons, List.not_mem_nil, false_implies, implies_true, and_true] at hl
  have x9 := hl
  have zx9 := row_sz' x9
  go_upto_region 2 with (go_at_call 90; go_loud ((with_reducible refine (HN.out _ (gw2.trans (by repeat (with_reducible first | assumption | exact grA | apply grB | apply grC | apply grD | refine grE ?_ (by omega) _ | refine grF ?_ (by omega) _ _)))).mono ?_); rintro r w1 ⟨rfl, hon⟩))
  have hrd := (HRD.out.grows gw2).on hon (by omega)
  have H0 := Lib.hid (fun (W : World) (hg : w1.grows W) => xat0 (hrd.grows hg))
  rw [HAT.out] at H0
  have y0 := hrd.row
  have zy0 := row_sz' y0
  have y9 := (row_growV hon.gb zx9.1 (fun e => by injection e with e; omega)).trans x9
  have zy9 := row_sz' y9
  have hlt := zx0.1
  generalize hb : w.heap.size = b at *
  have iw : IntKind.i64.wrap ((q : Int) + 1) = (q : Int) + 1 := by rw [IntKind.wrap_i64]; omega
  go_upto_region 5 with ((go_at_call 61; (with_reducible refine (H0.out _ (by repeat (with_reducible first | assumption | exact grA | apply grB | apply grC | apply grD | refine grE ?_ (by omega) _ | refine grF ?_ (by omega) _ _))).mono ?_); rintro e w1 ⟨rfl, x1, rfl⟩))
  have hon2 : On1 w2 g a cap L.length (q + 1) (w1.setCell ⟨g, 1, none⟩ (.int .i64 ((q : Int) + 1))) := On1.trans hon (on_step (grownBy_of_grows World.grows.refl _) y0 _ _ (by omega))
  have z9 : (w1.setCell ⟨g, 1, none⟩ (.int .i64 ((q : Int) + 1))).row b = some (.cells zeroA 65) := by rw [World.row_setCell, if_neg (by omega)]; exact y9
  have gg : (w1.setCell ⟨g, 1, none⟩ (.int .i64 ((q : Int) + 1))).grows ((w1.setCell ⟨g, 1, none⟩ (.int .i64 ((q : Int) + 1))).plus x1) := (by repeat (with_reducible first | assumption | exact grA | apply grB | apply grC | apply grD | refine grE ?_ (by omega) _ | refine grF ?_ (by omega) _ _))
  have hon3 := hon2.more gg
  have v9 := (gg.row_eq (row_sz' z9).1).trans z9
  clear hon2 z9 gg
  generalize (w1.setCell ⟨g, 1, none⟩ (.int .i64 ((q : Int) + 1))).plus x1 = w3 at *
  have zv9 := row_sz' v9
  go_wp2_with ((go_at_call 64; (with_reducible refine (HU.out _).mono ?_); rintro e w1 ⟨rfl, x1, rfl⟩))
  refine bodyPost_ret (tok_res rfl _ (w1 := w3) (b := b) 2 (txt nm) rfl v9 ?_) rfl ⟨rfl, tok_on (w1 := w3) gw2 hon3 (Nat.le_of_eq hb) (by omega) 2 (txt nm) ?_⟩
  · exact (by repeat (with_reducible first | assumption | exact grA | apply grB | apply grC | apply grD | refine grE ?_ (by omega) _ | refine grF ?_ (by omega) _ _))
  · exact (by repeat (with_reducible first | assumption | exact grA | apply grB | apply grC | apply grD | refine grE ?_ (by omega) _ | refine grF ?_ (by omega) _ _))
end Go.Proofs.YthcaphoejplecaaGreatDoor

/- Texts of the walk, one after the other; what each proves stands ahead of it. -/
import Derived.Test.YthcaphoejplecaaGreatDoorTk3
set_option linter.unusedSimpArgs false
set_option linter.unusedVariables false
/- WALKS over jalousieref3, the law: the tokens of a text. No condition but the class of characters and the table of kinds. -/
namespace Go
open Go.RowKit
theorem runes_ok {l : List UInt8} (h : OkL l) : ∀ x ∈ runes l, OkC x := fun x hx => by
  obtain ⟨c, hc, rfl⟩ := List.mem_map.1 hx
  exact h c hc
end Go
namespace Go.Proofs.YthcaphoejplecaaGreatDoor
open Go.RowKit
theorem KindsAt.grows {w W : World} (h : KindsAt w) (hg : w.grows W) : KindsAt W := by
  obtain ⟨ty, fr, h⟩ := h
  exact ⟨ty, fr, (hg.row_eq (row_sz' h).1).trans h⟩
set_option maxRecDepth 100000 in
theorem xbytes_any {w : World} {g c : Nat} {l : List UInt8} {zs : List Value} {fr : Nat × Nat} {ts : List Tk} (hr : w.row g = some (.cells (u8c l ++ zs).toArray 5 fr)) (hl : l.length ≤ 1000) (hk : OkL l) (hK : KindsAt w) (hx : Lex (runes l) ts) :
    Calls Tryz.prog 25 #[.slice (some ⟨g, 0, none⟩) l.length c] w (fun e w' => ∃ r, e = .returned r ∧ w.grows w' ∧ TkO w' w.heap.size r ts) := by
  have HD := Lib.hid (fun (W : World) (hg : w.grows W) => xdecode_any (c := c) (hg.row_eq (row_sz' hr).1 ▸ hr) hl hk)
  have HK := Lib.hid hK
  have HOK := Lib.hid (runes_ok hk)
  have hlen : (runes l).length = l.length := by simp [runes]
  have HT := Lib.hid (fun (W : World) (v : Value) (h : SlAt W (fun b => b < W.heap.size) 1 RuR v (runes l)) (hk : KindsAt W) => xtokens_any h (by omega) hk hx)
  clear hr hk hK hx
  go_enter Tryz.func25, Tryz.ntmps25
  go_wp2_with (first | (go_at_call 41; go_loud ((with_reducible refine (HD.out _ (by repeat (with_reducible first | assumption | exact grA | apply grB | apply grC | apply grD | refine grE ?_ (by omega) _ | refine grF ?_ (by omega) _ _))).mono ?_); rintro r w1 ⟨v, rfl, hg1, hv⟩; have hg1' : w.grows w1 := World.grows.trans (by repeat (with_reducible first | assumption | exact grA | apply grB | apply grC | apply grD | refine grE ?_ (by omega) _ | refine grF ?_ (by omega) _ _)) hg1)) | (go_at_call 40; go_loud ((with_reducible refine (HT.out _ _ ((hv.slAt (S := fun b => b < w1.heap.size) HOK.out fun g _ h => h).keep (fun b hb hl => ⟨World.grows.row_eq (by repeat (with_reducible first | assumption | exact grA | apply grB | apply grC | apply grD | refine grE ?_ (by omega) _ | refine grF ?_ (by omega) _ _)) hb, Nat.lt_of_lt_of_le hb (World.grows.below (by repeat (with_reducible first | assumption | exact grA | apply grB | apply grC | apply grD | refine grE ?_ (by omega) _ | refine grF ?_ (by omega) _ _))).size⟩) fun _ _ _ h => h) (HK.out.grows (hg1'.trans (by repeat (with_reducible first | assumption | exact grA | apply grB | apply grC | apply grD | refine grE ?_ (by omega) _ | refine grF ?_ (by omega) _ _))))).mono ?_); rintro r w2 ⟨v2, rfl, hg2, hv2⟩)))
  go_ret
  exact ⟨_, rfl, hg1'.trans (hg2.trans (by repeat (with_reducible first | assumption | exact grA | apply grB | apply grC | apply grD | refine grE ?_ (by omega) _ | refine grF ?_ (by omega) _ _))), own_low hg1'.below.size (hv2.1.grows (by repeat (with_reducible first | assumption | exact grA | apply grB | apply grC | apply grD | refine grE ?_ (by omega) _ | refine grF ?_ (by omega) _ _))), hv2.2⟩
set_option maxRecDepth 100000 in
theorem toks_any {w : World} {s : ByteArray} {ts : List Tk} (hl : s.size ≤ 1000) (hk : OkL s.data.toList) (hK : KindsAt w) (hx : Lex (runes s.data.toList) ts) :
    Calls Tryz.prog 10 #[.string s] w (fun e w' => ∃ r, e = .returned r ∧ w.grows w' ∧ TkO w' w.heap.size r ts) := by
  obtain ⟨c, n, W, zs, hcv, hgW, hsW, hrow, hn⟩ := conv_row (P := Tryz.prog) (u := .string) w 9 57 5 s (by kernel_rfl) (by kernel_rfl) (by kernel_rfl)
  have hsz : s.data.toList.length = s.size := rfl
  have HB := Lib.hid (fun (V : World) (hg : W.grows V) => xbytes_any (c := c) (hg.row_eq (row_sz' hrow).1 ▸ hrow) hl hk ((hK.grows hgW).grows hg) hx)
  rw [hsz] at HB
  have HG := Lib.hid hgW
  clear hl hk hK hx hn hrow hsW
  go_enter Tryz.func10, Tryz.ntmps10
  go_wp2_with (go_at_call 25; go_loud ((with_reducible refine (HB.out _ (by repeat (with_reducible first | assumption | exact grA | apply grB | apply grC | apply grD | refine grE ?_ (by omega) _ | refine grF ?_ (by omega) _ _))).mono ?_); rintro r w1 ⟨v, rfl, hg1, hv⟩))
  go_ret
  exact ⟨_, rfl, HG.out.trans (hg1.trans (by repeat (with_reducible first | assumption | exact grA | apply grB | apply grC | apply grD | refine grE ?_ (by omega) _ | refine grF ?_ (by omega) _ _))), own_low HG.out.below.size (hv.1.grows (by repeat (with_reducible first | assumption | exact grA | apply grB | apply grC | apply grD | refine grE ?_ (by omega) _ | refine grF ?_ (by omega) _ _))), hv.2⟩
end Go.Proofs.YthcaphoejplecaaGreatDoor

/- WALK over the law: what every program must know. No condition but the table of kinds. -/
namespace Go
open Go.RowKit
abbrev txA : ByteArray := ⟨#[97, 32, 118, 97, 114, 40, 45, 45, 120, 41]⟩
abbrev txB : ByteArray := ⟨#[98]⟩
abbrev txC : ByteArray := ⟨#[97, 32, 98]⟩
abbrev txX : ByteArray := ⟨#[45, 45, 120]⟩
end Go
namespace Go.Proofs.YthcaphoejplecaaGreatDoor
open Go.RowKit
def tkA : List Tk := [mkTk 1 (txt [97]), mkTk 13 ⟨#[]⟩, mkTk 2 (txt [118, 97, 114]), mkTk 1 (txt [45, 45, 120]), mkTk 22 ⟨#[]⟩]
def tkB : List Tk := [mkTk 1 (txt [98])]
def tkC : List Tk := [mkTk 1 (txt [97]), mkTk 13 ⟨#[]⟩, mkTk 1 (txt [98])]
theorem lexB : Lex [98] tkB := .ident (nm := [98]) (l := []) (by decide) (by decide) (by unfold Sta; decide) (fun x h => by cases h) (by decide) .nil
theorem lexC : Lex [97, 32, 98] tkC := .ident (nm := [97]) (l := [32, 98]) (by decide) (by decide) (by unfold Sta; decide) (fun x h => by cases h; decide) (by decide) (.space (by decide) lexB)
theorem lexA : Lex [97, 32, 118, 97, 114, 40, 45, 45, 120, 41] tkA :=
  .ident (nm := [97]) (l := [32, 118, 97, 114, 40, 45, 45, 120, 41]) (by decide) (by decide) (by unfold Sta; decide) (fun x h => by cases h; decide) (by decide) (.space (by decide)
    (.func (nm := [118, 97, 114]) (l := [45, 45, 120, 41]) (by decide) (by decide) (by unfold Sta; decide) (by decide +kernel)
      (.ident (nm := [45, 45, 120]) (l := [41]) (by decide) (by decide) (by unfold Sta; decide) (fun x h => by cases h; decide) (by decide) (.single .pc .nil))))
theorem okB : OkL txB.data.toList := fun c hc => by
  have : c = 98 := by simpa [txB] using hc
  subst this; unfold OkC; decide
theorem okC : OkL txC.data.toList := fun c hc => by
  have : c = 97 ∨ c = 32 ∨ c = 98 := by simpa [txC] using hc
  rcases this with rfl | rfl | rfl <;> (unfold OkC; decide)
theorem okA : OkL txA.data.toList := fun c hc => by
  have : c = 97 ∨ c = 32 ∨ c = 118 ∨ c = 114 ∨ c = 40 ∨ c = 45 ∨ c = 120 ∨ c = 41 := by
    simp only [txA, List.mem_cons, List.not_mem_nil, or_false] at hc
    rcases hc with rfl | rfl | rfl | rfl | rfl | rfl | rfl | rfl | rfl | rfl <;> decide
  rcases this with rfl | rfl | rfl | rfl | rfl | rfl | rfl | rfl <;> (unfold OkC; decide)
theorem putABC : putAll (findCu [⟨txX, tkB⟩]) tkA = (tkC, 0) := by kernel_rfl
theorem cus1 {W : World} {b : Nat} {v : Value} {ts : List Tk} {e : TypeId} (hr : W.row b = some (.cells #[.string txX, v] e)) (hv : SlAt W (fun g => g < W.heap.size) 6 TkR v ts) (hl : ts.length ≤ 4194304) :
    CusAt W (fun g => g < W.heap.size) (.slice (some ⟨b, 0, none⟩) 1 1) [⟨txX, ts⟩] :=
  ⟨_, 1, rfl, Nat.le_refl _, by decide, .inr ⟨b, 0, rfl, (row_sz' hr).1, fun i x hx => by
    cases i with
    | succ i => simp at hx
    | zero =>
      simp only [List.getElem?_cons_zero, Option.some.injEq] at hx
      subst hx
      refine ⟨[.string txX, v], rfl, eltAt_of_range (by simp) (fun j u hj => ?_), (show txX.size ≤ maxLen by decide), v, rfl, hv, hl⟩
      rw [World.cell?_row, hr]
      have : j = 0 ∨ j = 1 := by
        have := (List.getElem?_eq_some_iff.1 hj).1
        simp at this; omega
      rcases this with rfl | rfl
      · exact hj
      · exact hj⟩⟩
set_option maxRecDepth 100000 in
set_option maxHeartbeats 4000000 in
theorem awake_any {w : World} (hK : KindsAt w) : Calls Tryz.prog 8 #[] w (Gives w (.bool true)) := by
  have HA := Lib.hid (fun (W : World) (hg : w.grows W) => toks_any (s := txA) (ts := tkA) (by decide) okA (hK.grows hg) lexA)
  have HB := Lib.hid (fun (W : World) (hg : w.grows W) => toks_any (s := txB) (ts := tkB) (by decide) okB (hK.grows hg) lexB)
  have HC := Lib.hid (fun (W : World) (hg : w.grows W) => toks_any (s := txC) (ts := tkC) (by decide) okC (hK.grows hg) lexC)
  go_enter Tryz.func8, Tryz.ntmps8
  go_upto_region 1 with fail
  go_upto_region 2 with (first | (go_at_call 10; go_loud ((with_reducible refine (HA.out _ (by repeat (with_reducible first | assumption | exact grA | apply grB | apply grC | apply grD | refine grE ?_ (by omega) _ | refine grF ?_ (by omega) _ _))).mono ?_); rintro r w1 ⟨v1, rfl, hg1, hv1⟩; obtain ⟨a1, c1, rfl⟩ := own_slice hv1.1; replace hg1 : w.grows w1 := World.grows.trans (by repeat (with_reducible first | assumption | exact grA | apply grB | apply grC | apply grD | refine grE ?_ (by omega) _ | refine grF ?_ (by omega) _ _)) hg1)) | (go_at_call 10; go_loud ((with_reducible refine (HB.out _ (hg1.trans (by repeat (with_reducible first | assumption | exact grA | apply grB | apply grC | apply grD | refine grE ?_ (by omega) _ | refine grF ?_ (by omega) _ _)))).mono ?_); rintro r w2 ⟨v2, rfl, hg2, hv2⟩; obtain ⟨a2, c2, rfl⟩ := own_slice hv2.1; replace hg2 : w1.grows w2 := World.grows.trans (by repeat (with_reducible first | assumption | exact grA | apply grB | apply grC | apply grD | refine grE ?_ (by omega) _ | refine grF ?_ (by omega) _ _)) hg2)) | (go_at_call 24; go_loud (have hgA : w2.grows (w2.alloc (.cells #[.string txX, .slice a2 tkB.length c2] 30)) := (by repeat (with_reducible first | assumption | exact grA | apply grB | apply grC | apply grD | refine grE ?_ (by omega) _ | refine grF ?_ (by omega) _ _)); have HP := vPut_any (w := w2.alloc (.cells #[.string txX, .slice a2 tkB.length c2] 30)) (l := tkA) (cus := [⟨txX, tkB⟩]) (((hv1.slAt (S := fun _ => True) fun _ _ _ => trivial).grows hg2 fun _ _ _ h => h).grows hgA fun _ _ _ h => h) (by decide) (cus1 (heap_alloc_new w2 _) ((hv2.slAt (S := fun g => g < (w2.alloc (.cells #[.string txX, .slice a2 tkB.length c2] 30)).heap.size) fun g _ h => Nat.lt_of_lt_of_le h hgA.below.size).grows hgA fun _ _ _ h => h) (by decide)) (by decide) (fun g h => h); rw [putABC] at HP; (with_reducible refine HP.mono ?_); rintro r w4 ⟨v4, rfl, hg4, hv4⟩)))
  have hgw4 : w.grows w4 := hg1.trans (hg2.trans (World.grows.trans (show w2.grows _ from (by repeat (with_reducible first | assumption | exact grA | apply grB | apply grC | apply grD | refine grE ?_ (by omega) _ | refine grF ?_ (by omega) _ _))) hg4))
  have HV4 := Lib.hid hv4
  clear hv4
  obtain ⟨a4, c4, rfl, -, -⟩ := SlAt.len HV4.out
  go_wp2_with (first | (go_at_call 12; (with_reducible refine (HSM.out _ (by repeat (with_reducible first | assumption | exact grA | apply grB | apply grC | apply grD | refine grE ?_ (by omega) _ | refine grF ?_ (by omega) _ _))).mono ?_); rintro e w1 ⟨rfl, x1, rfl⟩) | (go_at_call 10; go_loud ((with_reducible refine (HC.out _ (hgw4.trans (by repeat (with_reducible first | assumption | exact grA | apply grB | apply grC | apply grD | refine grE ?_ (by omega) _ | refine grF ?_ (by omega) _ _)))).mono ?_); rintro r w5 ⟨v5, rfl, hg5, hv5⟩; replace hg5 : w4.grows w5 := World.grows.trans (by repeat (with_reducible first | assumption | exact grA | apply grB | apply grC | apply grD | refine grE ?_ (by omega) _ | refine grF ?_ (by omega) _ _)) hg5; have HSM := Lib.hid (fun (W : World) (hg : w5.grows W) => fsame_any (HV4.out.grows (hg5.trans hg) fun _ _ _ h => h) ((hv5.slAt (S := fun _ => True) fun _ _ _ => trivial).grows hg fun _ _ _ h => h)))))
  go_ret
  exact ⟨rfl, hgw4.trans (hg5.trans (by repeat (with_reducible first | assumption | exact grA | apply grB | apply grC | apply grD | refine grE ?_ (by omega) _ | refine grF ?_ (by omega) _ _)))⟩
end Go.Proofs.YthcaphoejplecaaGreatDoor

/- WALK over the law VarsPuts. No condition but bounds and the table of kinds. -/
namespace Go.Proofs.YthcaphoejplecaaGreatDoor
open Go.RowKit
end Go.Proofs.YthcaphoejplecaaGreatDoor

/- WALKS over rat: what comes of a list of fractions, two by two. No condition but that numbers are of their kinds. -/
import Derived.Test.YtkmpnkgelaaebaaDoorTimes
import Derived.Test.YtkmpnkgelaaebaaDoorOpsE
set_option linter.unusedSimpArgs false
set_option linter.unusedVariables false
namespace Go
open Go.RowKit
def I64p (p : Int × Int) : Prop := I64 p.1 ∧ I64 p.2
def sureP (p : Int × Int) : Bool := sureB p.1 p.2
abbrev ratL (p : Int × Int) : List Value := [.int .i64 p.1, .int .i64 p.2]
/-- a slice that reads as these fractions -/
def RatsAt (w : World) (v : Value) (l : List (Int × Int)) : Prop :=
  ∃ (a : Option Addr) (cap : Nat), v = .slice a l.length cap ∧ l.length ≤ cap ∧ cap ≤ 9223372036854775807 ∧ (∀ p ∈ l, I64p p) ∧
    (l = [] ∨ ∃ (g off : Nat), a = some ⟨g, off, none⟩ ∧ ∀ i (p : Int × Int), l[i]? = some p → eltAt w g (off + i * 2) (ratL p))
theorem RatsAt.grows {w W : World} {v : Value} {l : List (Int × Int)} (h : RatsAt w v l) (hg : w.grows W) : RatsAt W v l := by
  obtain ⟨a, cap, h1, h2, h3, h4, h5⟩ := h
  refine ⟨a, cap, h1, h2, h3, h4, ?_⟩
  rcases h5 with h5 | ⟨g, off, h6, h7⟩
  · exact .inl h5
  · exact .inr ⟨g, off, h6, fun i p hi => (h7 i p hi).grows hg⟩
/-- from the first on, by an operation -/
def goQ (op : Int × Int → Int × Int → Int × Int) (out : Int × Int) : List (Int × Int) → Int × Int
  | [] => out
  | r :: l => if sureP out && sureP r then goQ op (op out r) l else (0, 0)
def foldQ (none : Int × Int) (op : Int × Int → Int × Int → Int × Int) : List (Int × Int) → Int × Int
  | [] => none
  | p :: l => if sureP p then goQ op p l else (0, 0)
end Go
namespace Go.Proofs.YtkmpnkgelaaebaaDoor
open Go.RowKit

set_option maxRecDepth 100000 in
set_option maxHeartbeats 4000000 in
theorem folded_times (op : Int × Int → Int × Int → Int × Int) (hop : ∀ p q, I64p (op p q))
    (hf : ∀ p q w, I64p p → I64p q → sureP p = true → sureP q = true → Calls Tryd.prog 38 #[ratV p, ratV q] w (Gives w (ratV (op p q))))
    (none : Int × Int) (v : Value) (l : List (Int × Int)) (w : World) (hr : RatsAt w v l) :
    Calls Tryd.prog 37 #[ratV none, .func (.func 38) #[] #[], v] w (Gives w (ratV (foldQ none op l))) := by
  obtain ⟨a, cap, rfl, hlc, hc, hi, hr⟩ := hr
  have HI := Lib.hid hi; have HR := Lib.hid hr; have HF := Lib.hid hf; have HO := Lib.hid hop; clear hi hr hf hop
  obtain ⟨n1, n2⟩ := none
  cases l with
  | nil =>
    simp only [foldQ, List.length_nil]
    clear hlc
    go_enter Tryd.func37, Tryd.ntmps37
    go_wp2_with (first | ((with_reducible show bodyPost _ _ _ _ _ _); exact ret_23 rfl rfl (by simp [go_sem]) rfl ⟨by simp [go_sem], (by repeat (first | exact World.grows.refl | apply World.grows.plus | apply World.grows.alloc | apply World.grows.drew))⟩))
  | cons p l =>
    rcases HR.out with h | ⟨g, off, rfl, hcell⟩
    · cases h
    have h0 := hcell 0 p rfl
    simp only [Nat.zero_mul, Nat.add_zero] at h0
    have zg := lt_sz h0.lt
    have e1 : segOk off 2 (w.row g) = true := h0.1
    have e2 : segV off 2 (w.row g) = ratV p := h0.2
    have HC := Lib.hid hcell; clear hcell h0 HR
    simp only [List.length_cons] at hlc ⊢
    have hcap : (0 : Nat) < cap := by omega
    have s1 := fun w => sure_any p.1 p.2 w (HI.out p (by simp)).1.1 (HI.out p (by simp)).1.2 (HI.out p (by simp)).2.1 (HI.out p (by simp)).2.2
    change ∀ w, Calls _ _ _ w (Gives w (.bool (sureP p))) at s1
    have hI := HI.out p (by simp)
    have hIl : ∀ q ∈ l, I64p q := fun q hq => HI.out q (by simp [hq])
    cases hp : sureP p with
    | false =>
      have er : foldQ (n1, n2) op (p :: l) = (0, 0) := by show (if sureP p = true then _ else _) = _; rw [hp]; rfl
      rw [er]; rw [hp] at s1
      obtain ⟨p1, p2⟩ := p
      have S1 := Lib.hid s1; clear s1 er hp hI hIl
      go_enter Tryd.func37, Tryd.ntmps37
      go_wp2_with (first | (go_at_call 32; (with_reducible refine (S1.out _).mono ?_); rintro e w1 ⟨rfl, x1, rfl⟩) | ((with_reducible show bodyPost _ _ _ _ _ _); exact ret_23 rfl rfl (by simp [go_sem]) rfl ⟨by simp [go_sem], (by repeat (first | exact World.grows.refl | apply World.grows.plus | apply World.grows.alloc | apply World.grows.drew))⟩))
    | true =>
      have er : foldQ (n1, n2) op (p :: l) = goQ op p l := by show (if sureP p = true then _ else _) = _; rw [hp]; rfl
      rw [er]; rw [hp] at s1
      have S1 := Lib.hid s1; have HP := Lib.hid hI; have HL := Lib.hid hIl; have HS := Lib.hid hp; clear s1 er hp hI hIl HI
      generalize hR : goQ op p l = R at *
      have HRR := Lib.hid hR; clear hR
      by_cases hcap1 : cap = 1
      · subst hcap1
        obtain rfl : l = [] := by cases l; rfl; simp at hlc
        obtain ⟨p1, p2⟩ := p
        obtain ⟨R1, R2⟩ := R
        obtain ⟨rfl, rfl⟩ := Prod.mk.inj HRR.out
        simp only [List.length_nil] at *
        go_enter Tryd.func37, Tryd.ntmps37
        go_wp2_with (first | (go_at_call 32; (with_reducible refine (S1.out _).mono ?_); rintro e w1 ⟨rfl, x1, rfl⟩))
        go_loopw [24] (fun i wr => i = .int .i64 0 ∧ w.grows wr ∧ wr.row (w.heap.size + 1) = some (.cells #[.int .i64 0, .int .i64 0] 23) ∧ wr.row (w.heap.size + 1 + 1) = some (.cells #[.int .i64 p1, .int .i64 p2] 23)) (fun _ _ => 0)
        case atStart => exact ⟨rfl, (by repeat (with_reducible first | assumption | exact World.grows.refl | apply World.grows.plus | apply World.grows.alloc | apply World.grows.drew | (refine World.grows.setRow' ?_ (by omega) _) | (refine World.grows.setCell' ?_ (by omega) _ _))), (by simp [go_sem]), (by simp [go_sem])⟩
        case round =>
          obtain ⟨rfl, hg, hy, hx⟩ := hrel
          have z1 := row_sz' hx; have z2 := row_sz' hy
          go_wp2_with (first | ((with_reducible show bodyPost _ _ _ _ _ _); exact ret_23 rfl rfl (by simp [go_sem, hx, hy, z1, z2]) rfl ⟨by simp [go_sem, hx, hy, z1, z2], (by repeat (with_reducible first | assumption | exact World.grows.refl | apply World.grows.plus | apply World.grows.alloc | apply World.grows.drew | (refine World.grows.setRow' ?_ (by omega) _) | (refine World.grows.setCell' ?_ (by omega) _ _)))⟩))
      · obtain ⟨p1, p2⟩ := p
        obtain ⟨R1, R2⟩ := R
        go_enter Tryd.func37, Tryd.ntmps37
        go_wp2_with (first | (go_at_call 32; (with_reducible refine (S1.out _).mono ?_); rintro e w1 ⟨rfl, x1, rfl⟩))
        go_loopw [24] (fun i wr => ∃ (k : Nat) (o1 o2 : Int), k ≤ l.length ∧ i = .int .i64 k ∧ Hid (I64p (o1, o2)) ∧ Hid (goQ op (o1, o2) (l.drop k) = (R1, R2)) ∧ w.grows wr ∧ wr.row (w.heap.size + 1) = some (.cells #[.int .i64 0, .int .i64 0] 23) ∧ wr.row (w.heap.size + 1 + 1) = some (.cells #[.int .i64 o1, .int .i64 o2] 23)) (fun i _ => l.length - (intOf i).toNat)
        case atStart => exact ⟨0, p1, p2, Nat.zero_le _, rfl, HP, HRR, (by repeat (with_reducible first | assumption | exact World.grows.refl | apply World.grows.plus | apply World.grows.alloc | apply World.grows.drew | (refine World.grows.setRow' ?_ (by omega) _) | (refine World.grows.setCell' ?_ (by omega) _ _))), (by simp [go_sem]), (by simp [go_sem])⟩
        case round =>
          obtain ⟨k, o1, o2, hk, rfl, HO1, HG, hg, hy, hx⟩ := hrel
          have z1 := row_sz' hx; have z2 := row_sz' hy
          have s1 := fun w => sure_any o1 o2 w HO1.out.1.1 HO1.out.1.2 HO1.out.2.1 HO1.out.2.2
          change ∀ w, Calls _ _ _ w (Gives w (.bool (sureP (o1, o2)))) at s1
          by_cases hlt : k < l.length
          · have hd : l.drop k = l[k] :: l.drop (k + 1) := List.drop_eq_getElem_cons hlt
            have hcl := (HC.out (k + 1) l[k] (by simp [hlt])).grows hg
            rw [show off + (k + 1) * 2 = off + 2 + k * 2 by omega] at hcl
            have zr := lt_sz hcl.lt
            have e3 : segOk (off + 2 + k * 2) 2 (wr.row g) = true := hcl.1
            have e4 : segV (off + 2 + k * 2) 2 (wr.row g) = ratV l[k] := hcl.2
            have hq := HL.out l[k] (List.getElem_mem _)
            have s2 := fun w => sure_any l[k].1 l[k].2 w hq.1.1 hq.1.2 hq.2.1 hq.2.2
            change ∀ w, Calls _ _ _ w (Gives w (.bool (sureP l[k]))) at s2
            have hG := HG.out
            rw [hd] at hG
            generalize l[k] = r at *
            have HRI := Lib.hid hq
            clear hd hcl hq HG
            cases c1 : sureP (o1, o2) with
            | false =>
              have eR : (R1, R2) = (0, 0) := by rw [← hG]; show (if (sureP (o1, o2) && sureP r) = true then _ else _) = _; rw [c1]; rfl
              obtain ⟨rfl, rfl⟩ := Prod.mk.inj eR
              rw [c1] at s1
              obtain ⟨r1, r2⟩ := r
              have S1 := Lib.hid s1; clear s1 s2 hG c1 eR
              go_wp2_with (first | (go_at_call 32; (with_reducible refine (S1.out _).mono ?_); rintro e w1 ⟨rfl, x1, rfl⟩) | ((with_reducible show bodyPost _ _ _ _ _ _); exact ret_23 rfl rfl (by simp [go_sem, hx, hy, z1, z2]) rfl ⟨by simp [go_sem, hx, hy, z1, z2], (by repeat (with_reducible first | assumption | exact World.grows.refl | apply World.grows.plus | apply World.grows.alloc | apply World.grows.drew | (refine World.grows.setRow' ?_ (by omega) _) | (refine World.grows.setCell' ?_ (by omega) _ _)))⟩))
            | true =>
              cases c2 : sureP r with
              | false =>
                have eR : (R1, R2) = (0, 0) := by rw [← hG]; show (if (sureP (o1, o2) && sureP r) = true then _ else _) = _; rw [c1, c2]; rfl
                obtain ⟨rfl, rfl⟩ := Prod.mk.inj eR
                rw [c1] at s1; rw [c2] at s2
                obtain ⟨r1, r2⟩ := r
                have S1 := Lib.hid s1; have S2 := Lib.hid s2; clear s1 s2 hG c1 c2 eR
                go_wp2_with (first | (go_at_call 32; (with_reducible refine (S1.out _).mono ?_); rintro e w1 ⟨rfl, x1, rfl⟩) | (go_at_call 32; (with_reducible refine (S2.out _).mono ?_); rintro e w1 ⟨rfl, x1, rfl⟩) | ((with_reducible show bodyPost _ _ _ _ _ _); exact ret_23 rfl rfl (by simp [go_sem, hx, hy, z1, z2]) rfl ⟨by simp [go_sem, hx, hy, z1, z2], (by repeat (with_reducible first | assumption | exact World.grows.refl | apply World.grows.plus | apply World.grows.alloc | apply World.grows.drew | (refine World.grows.setRow' ?_ (by omega) _) | (refine World.grows.setCell' ?_ (by omega) _ _)))⟩))
              | true =>
                have eR : goQ op (op (o1, o2) r) (l.drop (k + 1)) = (R1, R2) := by rw [← hG]; show _ = (if (sureP (o1, o2) && sureP r) = true then _ else _); rw [c1, c2]; rfl
                have f1 := fun w => HF.out (o1, o2) r w HO1.out HRI.out c1 c2
                have hb := HO.out (o1, o2) r
                rw [c1] at s1; rw [c2] at s2
                generalize op (o1, o2) r = Q at *
                obtain ⟨q1, q2⟩ := Q
                obtain ⟨r1, r2⟩ := r
                have S1 := Lib.hid s1; have S2 := Lib.hid s2; have F1 := Lib.hid f1; have HB := Lib.hid hb; have ER := Lib.hid eR; clear s1 s2 hG c1 c2 eR f1 hb
                go_wp2_with (first | (go_at_call 32; (with_reducible refine (S1.out _).mono ?_); rintro e w1 ⟨rfl, x1, rfl⟩) | (go_at_call 32; (with_reducible refine (S2.out _).mono ?_); rintro e w1 ⟨rfl, x1, rfl⟩) | (go_at_call 38; (with_reducible refine (F1.out _).mono ?_); rintro e w1 ⟨rfl, x1, rfl⟩))
                go_roundw
                case rel => exact ⟨k + 1, q1, q2, by omega, by go_num, HB, ER, (by repeat (with_reducible first | assumption | exact World.grows.refl | apply World.grows.plus | apply World.grows.alloc | apply World.grows.drew | (refine World.grows.setRow' ?_ (by omega) _) | (refine World.grows.setCell' ?_ (by omega) _ _))), (by simp [go_sem, hx, hy, z1, z2]), (by simp [go_sem, hx, hy, z1, z2])⟩
                case measure => simp [intOf]; omega
          · have hkl : k = l.length := by omega
            have eR : (R1, R2) = (o1, o2) := by rw [← HG.out, hkl, List.drop_length]; rfl
            obtain ⟨rfl, rfl⟩ := Prod.mk.inj eR
            subst hkl
            clear eR HG s1
            go_wp2_with (first | ((with_reducible show bodyPost _ _ _ _ _ _); exact ret_23 rfl rfl (by simp [go_sem, hx, hy, z1, z2]) rfl ⟨by simp [go_sem, hx, hy, z1, z2], (by repeat (with_reducible first | assumption | exact World.grows.refl | apply World.grows.plus | apply World.grows.alloc | apply World.grows.drew | (refine World.grows.setRow' ?_ (by omega) _) | (refine World.grows.setCell' ?_ (by omega) _ _)))⟩))

end Go.Proofs.YtkmpnkgelaaebaaDoor

/- Texts of the walk, one after the other; what each proves stands ahead of it. -/
import Derived.Test.YthmicnjigfcljaaMb
import Derived.Test.YthmicnjigfcljaaMf
import Derived.Test.YthmicnjigfcljaaOpsE
set_option linter.unusedSimpArgs false
set_option linter.unusedVariables false
/- WALKS over rat: what comes of a list of fractions, two by two. No condition but that numbers are of their kinds. -/
namespace Go
open Go.RowKit
def I64p (p : Int × Int) : Prop := I64 p.1 ∧ I64 p.2
def sureP (p : Int × Int) : Bool := sureB p.1 p.2
abbrev ratL (p : Int × Int) : List Value := [.int .i64 p.1, .int .i64 p.2]
/-- a slice that reads as these fractions -/
def RatsAt (w : World) (v : Value) (l : List (Int × Int)) : Prop :=
  ∃ (a : Option Addr) (cap : Nat), v = .slice a l.length cap ∧ l.length ≤ cap ∧ cap ≤ 9223372036854775807 ∧ (∀ p ∈ l, I64p p) ∧
    (l = [] ∨ ∃ (g off : Nat), a = some ⟨g, off, none⟩ ∧ ∀ i (p : Int × Int), l[i]? = some p → eltAt w g (off + i * 2) (ratL p))
theorem RatsAt.grows {w W : World} {v : Value} {l : List (Int × Int)} (h : RatsAt w v l) (hg : w.grows W) : RatsAt W v l := by
  obtain ⟨a, cap, h1, h2, h3, h4, h5⟩ := h
  refine ⟨a, cap, h1, h2, h3, h4, ?_⟩
  rcases h5 with h5 | ⟨g, off, h6, h7⟩
  · exact .inl h5
  · exact .inr ⟨g, off, h6, fun i p hi => (h7 i p hi).grows hg⟩
/-- from the first on, by an operation -/
def goQ (op : Int × Int → Int × Int → Int × Int) (out : Int × Int) : List (Int × Int) → Int × Int
  | [] => out
  | r :: l => if sureP out && sureP r then goQ op (op out r) l else (0, 0)
def foldQ (none : Int × Int) (op : Int × Int → Int × Int → Int × Int) : List (Int × Int) → Int × Int
  | [] => none
  | p :: l => if sureP p then goQ op p l else (0, 0)
end Go
namespace Go.Proofs.Ythmicnjigfcljaa
open Go.RowKit

set_option maxRecDepth 100000 in
set_option maxHeartbeats 4000000 in
theorem folded_times (op : Int × Int → Int × Int → Int × Int) (hop : ∀ p q, I64p (op p q))
    (hf : ∀ p q w, I64p p → I64p q → sureP p = true → sureP q = true → Calls Try.prog 104 #[ratV p, ratV q] w (Gives w (ratV (op p q))))
    (none : Int × Int) (v : Value) (l : List (Int × Int)) (w : World) (hr : RatsAt w v l) :
    Calls Try.prog 102 #[ratV none, .func (.func 104) #[] #[], v] w (Gives w (ratV (foldQ none op l))) := by
  obtain ⟨a, cap, rfl, hlc, hc, hi, hr⟩ := hr
  have HI := Lib.hid hi; have HR := Lib.hid hr; have HF := Lib.hid hf; have HO := Lib.hid hop; clear hi hr hf hop
  obtain ⟨n1, n2⟩ := none
  cases l with
  | nil =>
    simp only [foldQ, List.length_nil]
    clear hlc
    go_enter Try.func102, Try.ntmps102
    go_wp2_with (first | ((with_reducible show bodyPost _ _ _ _ _ _); exact ret_23 rfl rfl (by simp [go_sem]) rfl ⟨by simp [go_sem], (by repeat (first | exact grA | apply grB | apply grC | apply grD))⟩))
  | cons p l =>
    rcases HR.out with h | ⟨g, off, rfl, hcell⟩
    · cases h
    have h0 := hcell 0 p rfl
    simp only [Nat.zero_mul, Nat.add_zero] at h0
    have zg := lt_sz h0.lt
    have e1 : segOk off 2 (w.row g) = true := h0.1
    have e2 : segV off 2 (w.row g) = ratV p := h0.2
    have HC := Lib.hid hcell; clear hcell h0 HR
    simp only [List.length_cons] at hlc ⊢
    have hcap : (0 : Nat) < cap := by omega
    have s1 := fun w => sure_any p.1 p.2 w (HI.out p (by simp)).1.1 (HI.out p (by simp)).1.2 (HI.out p (by simp)).2.1 (HI.out p (by simp)).2.2
    change ∀ w, Calls _ _ _ w (Gives w (.bool (sureP p))) at s1
    have hI := HI.out p (by simp)
    have hIl : ∀ q ∈ l, I64p q := fun q hq => HI.out q (by simp [hq])
    cases hp : sureP p with
    | false =>
      have er : foldQ (n1, n2) op (p :: l) = (0, 0) := by show (if sureP p = true then _ else _) = _; rw [hp]; rfl
      rw [er]; rw [hp] at s1
      obtain ⟨p1, p2⟩ := p
      have S1 := Lib.hid s1; clear s1 er hp hI hIl
      go_enter Try.func102, Try.ntmps102
      go_wp2_with (first | (go_at_call 109; (with_reducible refine (S1.out _).mono ?_); rintro e w1 ⟨rfl, x1, rfl⟩) | ((with_reducible show bodyPost _ _ _ _ _ _); exact ret_23 rfl rfl (by simp [go_sem]) rfl ⟨by simp [go_sem], (by repeat (first | exact grA | apply grB | apply grC | apply grD))⟩))
    | true =>
      have er : foldQ (n1, n2) op (p :: l) = goQ op p l := by show (if sureP p = true then _ else _) = _; rw [hp]; rfl
      rw [er]; rw [hp] at s1
      have S1 := Lib.hid s1; have HP := Lib.hid hI; have HL := Lib.hid hIl; have HS := Lib.hid hp; clear s1 er hp hI hIl HI
      generalize hR : goQ op p l = R at *
      have HRR := Lib.hid hR; clear hR
      by_cases hcap1 : cap = 1
      · subst hcap1
        obtain rfl : l = [] := by cases l; rfl; simp at hlc
        obtain ⟨p1, p2⟩ := p
        obtain ⟨R1, R2⟩ := R
        obtain ⟨rfl, rfl⟩ := Prod.mk.inj HRR.out
        simp only [List.length_nil] at *
        go_enter Try.func102, Try.ntmps102
        go_wp2_with (first | (go_at_call 109; (with_reducible refine (S1.out _).mono ?_); rintro e w1 ⟨rfl, x1, rfl⟩))
        go_loopw [24] (fun i wr => i = .int .i64 0 ∧ w.grows wr ∧ wr.row (w.heap.size + 1) = some (.cells #[.int .i64 0, .int .i64 0] 23) ∧ wr.row (w.heap.size + 1 + 1) = some (.cells #[.int .i64 p1, .int .i64 p2] 23)) (fun _ _ => 0)
        case atStart => exact ⟨rfl, (by repeat (with_reducible first | assumption | exact grA | apply grB | apply grC | apply grD | refine grE ?_ (by omega) _ | refine grF ?_ (by omega) _ _)), (by simp [go_sem]), (by simp [go_sem])⟩
        case round =>
          obtain ⟨rfl, hg, hy, hx⟩ := hrel
          have z1 := row_sz' hx; have z2 := row_sz' hy
          go_wp2_with (first | ((with_reducible show bodyPost _ _ _ _ _ _); exact ret_23 rfl rfl (by simp [go_sem, hx, hy, z1, z2]) rfl ⟨by simp [go_sem, hx, hy, z1, z2], (by repeat (with_reducible first | assumption | exact grA | apply grB | apply grC | apply grD | refine grE ?_ (by omega) _ | refine grF ?_ (by omega) _ _))⟩))
      · obtain ⟨p1, p2⟩ := p
        obtain ⟨R1, R2⟩ := R
        go_enter Try.func102, Try.ntmps102
        go_wp2_with (first | (go_at_call 109; (with_reducible refine (S1.out _).mono ?_); rintro e w1 ⟨rfl, x1, rfl⟩))
        go_loopw [24] (fun i wr => ∃ (k : Nat) (o1 o2 : Int), k ≤ l.length ∧ i = .int .i64 k ∧ Hid (I64p (o1, o2)) ∧ Hid (goQ op (o1, o2) (l.drop k) = (R1, R2)) ∧ w.grows wr ∧ wr.row (w.heap.size + 1) = some (.cells #[.int .i64 0, .int .i64 0] 23) ∧ wr.row (w.heap.size + 1 + 1) = some (.cells #[.int .i64 o1, .int .i64 o2] 23)) (fun i _ => l.length - (intOf i).toNat)
        case atStart => exact ⟨0, p1, p2, Nat.zero_le _, rfl, HP, HRR, (by repeat (with_reducible first | assumption | exact grA | apply grB | apply grC | apply grD | refine grE ?_ (by omega) _ | refine grF ?_ (by omega) _ _)), (by simp [go_sem]), (by simp [go_sem])⟩
        case round =>
          obtain ⟨k, o1, o2, hk, rfl, HO1, HG, hg, hy, hx⟩ := hrel
          have z1 := row_sz' hx; have z2 := row_sz' hy
          have s1 := fun w => sure_any o1 o2 w HO1.out.1.1 HO1.out.1.2 HO1.out.2.1 HO1.out.2.2
          change ∀ w, Calls _ _ _ w (Gives w (.bool (sureP (o1, o2)))) at s1
          by_cases hlt : k < l.length
          · have hd : l.drop k = l[k] :: l.drop (k + 1) := List.drop_eq_getElem_cons hlt
            have hcl := (HC.out (k + 1) l[k] (by simp [hlt])).grows hg
            rw [show off + (k + 1) * 2 = off + 2 + k * 2 by omega] at hcl
            have zr := lt_sz hcl.lt
            have e3 : segOk (off + 2 + k * 2) 2 (wr.row g) = true := hcl.1
            have e4 : segV (off + 2 + k * 2) 2 (wr.row g) = ratV l[k] := hcl.2
            have hq := HL.out l[k] (List.getElem_mem _)
            have s2 := fun w => sure_any l[k].1 l[k].2 w hq.1.1 hq.1.2 hq.2.1 hq.2.2
            change ∀ w, Calls _ _ _ w (Gives w (.bool (sureP l[k]))) at s2
            have hG := HG.out
            rw [hd] at hG
            generalize l[k] = r at *
            have HRI := Lib.hid hq
            clear hd hcl hq HG
            cases c1 : sureP (o1, o2) with
            | false =>
              have eR : (R1, R2) = (0, 0) := by rw [← hG]; show (if (sureP (o1, o2) && sureP r) = true then _ else _) = _; rw [c1]; rfl
              obtain ⟨rfl, rfl⟩ := Prod.mk.inj eR
              rw [c1] at s1
              obtain ⟨r1, r2⟩ := r
              have S1 := Lib.hid s1; clear s1 s2 hG c1 eR
              go_wp2_with (first | (go_at_call 109; (with_reducible refine (S1.out _).mono ?_); rintro e w1 ⟨rfl, x1, rfl⟩) | ((with_reducible show bodyPost _ _ _ _ _ _); exact ret_23 rfl rfl (by simp [go_sem, hx, hy, z1, z2]) rfl ⟨by simp [go_sem, hx, hy, z1, z2], (by repeat (with_reducible first | assumption | exact grA | apply grB | apply grC | apply grD | refine grE ?_ (by omega) _ | refine grF ?_ (by omega) _ _))⟩))
            | true =>
              cases c2 : sureP r with
              | false =>
                have eR : (R1, R2) = (0, 0) := by rw [← hG]; show (if (sureP (o1, o2) && sureP r) = true then _ else _) = _; rw [c1, c2]; rfl
                obtain ⟨rfl, rfl⟩ := Prod.mk.inj eR
                rw [c1] at s1; rw [c2] at s2
                obtain ⟨r1, r2⟩ := r
                have S1 := Lib.hid s1; have S2 := Lib.hid s2; clear s1 s2 hG c1 c2 eR
                go_wp2_with (first | (go_at_call 109; (with_reducible refine (S1.out _).mono ?_); rintro e w1 ⟨rfl, x1, rfl⟩) | (go_at_call 109; (with_reducible refine (S2.out _).mono ?_); rintro e w1 ⟨rfl, x1, rfl⟩) | ((with_reducible show bodyPost _ _ _ _ _ _); exact ret_23 rfl rfl (by simp [go_sem, hx, hy, z1, z2]) rfl ⟨by simp [go_sem, hx, hy, z1, z2], (by repeat (with_reducible first | assumption | exact grA | apply grB | apply grC | apply grD | refine grE ?_ (by omega) _ | refine grF ?_ (by omega) _ _))⟩))
              | true =>
                have eR : goQ op (op (o1, o2) r) (l.drop (k + 1)) = (R1, R2) := by rw [← hG]; show _ = (if (sureP (o1, o2) && sureP r) = true then _ else _); rw [c1, c2]; rfl
                have f1 := fun w => HF.out (o1, o2) r w HO1.out HRI.out c1 c2
                have hb := HO.out (o1, o2) r
                rw [c1] at s1; rw [c2] at s2
                generalize op (o1, o2) r = Q at *
                obtain ⟨q1, q2⟩ := Q
                obtain ⟨r1, r2⟩ := r
                have S1 := Lib.hid s1; have S2 := Lib.hid s2; have F1 := Lib.hid f1; have HB := Lib.hid hb; have ER := Lib.hid eR; clear s1 s2 hG c1 c2 eR f1 hb
                go_wp2_with (first | (go_at_call 109; (with_reducible refine (S1.out _).mono ?_); rintro e w1 ⟨rfl, x1, rfl⟩) | (go_at_call 109; (with_reducible refine (S2.out _).mono ?_); rintro e w1 ⟨rfl, x1, rfl⟩) | (go_at_call 104; (with_reducible refine (F1.out _).mono ?_); rintro e w1 ⟨rfl, x1, rfl⟩))
                go_roundw
                case rel => exact ⟨k + 1, q1, q2, by omega, by go_num, HB, ER, (by repeat (with_reducible first | assumption | exact grA | apply grB | apply grC | apply grD | refine grE ?_ (by omega) _ | refine grF ?_ (by omega) _ _)), (by simp [go_sem, hx, hy, z1, z2]), (by simp [go_sem, hx, hy, z1, z2])⟩
                case measure => simp [intOf]; omega
          · have hkl : k = l.length := by omega
            have eR : (R1, R2) = (o1, o2) := by rw [← HG.out, hkl, List.drop_length]; rfl
            obtain ⟨rfl, rfl⟩ := Prod.mk.inj eR
            subst hkl
            clear eR HG s1
            go_wp2_with (first | ((with_reducible show bodyPost _ _ _ _ _ _); exact ret_23 rfl rfl (by simp [go_sem, hx, hy, z1, z2]) rfl ⟨by simp [go_sem, hx, hy, z1, z2], (by repeat (with_reducible first | assumption | exact grA | apply grB | apply grC | apply grD | refine grE ?_ (by omega) _ | refine grF ?_ (by omega) _ _))⟩))
set_option maxRecDepth 100000 in
set_option maxHeartbeats 4000000 in
theorem folded_plus (op : Int × Int → Int × Int → Int × Int) (hop : ∀ p q, I64p (op p q))
    (hf : ∀ p q w, I64p p → I64p q → sureP p = true → sureP q = true → Calls Try.prog 103 #[ratV p, ratV q] w (Gives w (ratV (op p q))))
    (none : Int × Int) (v : Value) (l : List (Int × Int)) (w : World) (hr : RatsAt w v l) :
    Calls Try.prog 102 #[ratV none, .func (.func 103) #[] #[], v] w (Gives w (ratV (foldQ none op l))) := by
  obtain ⟨a, cap, rfl, hlc, hc, hi, hr⟩ := hr
  have HI := Lib.hid hi; have HR := Lib.hid hr; have HF := Lib.hid hf; have HO := Lib.hid hop; clear hi hr hf hop
  obtain ⟨n1, n2⟩ := none
  cases l with
  | nil =>
    simp only [foldQ, List.length_nil]
    clear hlc
    go_enter Try.func102, Try.ntmps102
    go_wp2_with (first | ((with_reducible show bodyPost _ _ _ _ _ _); exact ret_23 rfl rfl (by simp [go_sem]) rfl ⟨by simp [go_sem], (by repeat (first | exact grA | apply grB | apply grC | apply grD))⟩))
  | cons p l =>
    rcases HR.out with h | ⟨g, off, rfl, hcell⟩
    · cases h
    have h0 := hcell 0 p rfl
    simp only [Nat.zero_mul, Nat.add_zero] at h0
    have zg := lt_sz h0.lt
    have e1 : segOk off 2 (w.row g) = true := h0.1
    have e2 : segV off 2 (w.row g) = ratV p := h0.2
    have HC := Lib.hid hcell; clear hcell h0 HR
    simp only [List.length_cons] at hlc ⊢
    have hcap : (0 : Nat) < cap := by omega
    have s1 := fun w => sure_any p.1 p.2 w (HI.out p (by simp)).1.1 (HI.out p (by simp)).1.2 (HI.out p (by simp)).2.1 (HI.out p (by simp)).2.2
    change ∀ w, Calls _ _ _ w (Gives w (.bool (sureP p))) at s1
    have hI := HI.out p (by simp)
    have hIl : ∀ q ∈ l, I64p q := fun q hq => HI.out q (by simp [hq])
    cases hp : sureP p with
    | false =>
      have er : foldQ (n1, n2) op (p :: l) = (0, 0) := by show (if sureP p = true then _ else _) = _; rw [hp]; rfl
      rw [er]; rw [hp] at s1
      obtain ⟨p1, p2⟩ := p
      have S1 := Lib.hid s1; clear s1 er hp hI hIl
      go_enter Try.func102, Try.ntmps102
      go_wp2_with (first | (go_at_call 109; (with_reducible refine (S1.out _).mono ?_); rintro e w1 ⟨rfl, x1, rfl⟩) | ((with_reducible show bodyPost _ _ _ _ _ _); exact ret_23 rfl rfl (by simp [go_sem]) rfl ⟨by simp [go_sem], (by repeat (first | exact grA | apply grB | apply grC | apply grD))⟩))
    | true =>
      have er : foldQ (n1, n2) op (p :: l) = goQ op p l := by show (if sureP p = true then _ else _) = _; rw [hp]; rfl
      rw [er]; rw [hp] at s1
      have S1 := Lib.hid s1; have HP := Lib.hid hI; have HL := Lib.hid hIl; have HS := Lib.hid hp; clear s1 er hp hI hIl HI
      generalize hR : goQ op p l = R at *
      have HRR := Lib.hid hR; clear hR
      by_cases hcap1 : cap = 1
      · subst hcap1
        obtain rfl : l = [] := by cases l; rfl; simp at hlc
        obtain ⟨p1, p2⟩ := p
        obtain ⟨R1, R2⟩ := R
        obtain ⟨rfl, rfl⟩ := Prod.mk.inj HRR.out
        simp only [List.length_nil] at *
        go_enter Try.func102, Try.ntmps102
        go_wp2_with (first | (go_at_call 109; (with_reducible refine (S1.out _).mono ?_); rintro e w1 ⟨rfl, x1, rfl⟩))
        go_loopw [24] (fun i wr => i = .int .i64 0 ∧ w.grows wr ∧ wr.row (w.heap.size + 1) = some (.cells #[.int .i64 0, .int .i64 0] 23) ∧ wr.row (w.heap.size + 1 + 1) = some (.cells #[.int .i64 p1, .int .i64 p2] 23)) (fun _ _ => 0)
        case atStart => exact ⟨rfl, (by repeat (with_reducible first | assumption | exact grA | apply grB | apply grC | apply grD | refine grE ?_ (by omega) _ | refine grF ?_ (by omega) _ _)), (by simp [go_sem]), (by simp [go_sem])⟩
        case round =>
          obtain ⟨rfl, hg, hy, hx⟩ := hrel
          have z1 := row_sz' hx; have z2 := row_sz' hy
          go_wp2_with (first | ((with_reducible show bodyPost _ _ _ _ _ _); exact ret_23 rfl rfl (by simp [go_sem, hx, hy, z1, z2]) rfl ⟨by simp [go_sem, hx, hy, z1, z2], (by repeat (with_reducible first | assumption | exact grA | apply grB | apply grC | apply grD | refine grE ?_ (by omega) _ | refine grF ?_ (by omega) _ _))⟩))
      · obtain ⟨p1, p2⟩ := p
        obtain ⟨R1, R2⟩ := R
        go_enter Try.func102, Try.ntmps102
        go_wp2_with (first | (go_at_call 109; (with_reducible refine (S1.out _).mono ?_); rintro e w1 ⟨rfl, x1, rfl⟩))
        go_loopw [24] (fun i wr => ∃ (k : Nat) (o1 o2 : Int), k ≤ l.length ∧ i = .int .i64 k ∧ Hid (I64p (o1, o2)) ∧ Hid (goQ op (o1, o2) (l.drop k) = (R1, R2)) ∧ w.grows wr ∧ wr.row (w.heap.size + 1) = some (.cells #[.int .i64 0, .int .i64 0] 23) ∧ wr.row (w.heap.size + 1 + 1) = some (.cells #[.int .i64 o1, .int .i64 o2] 23)) (fun i _ => l.length - (intOf i).toNat)
        case atStart => exact ⟨0, p1, p2, Nat.zero_le _, rfl, HP, HRR, (by repeat (with_reducible first | assumption | exact grA | apply grB | apply grC | apply grD | refine grE ?_ (by omega) _ | refine grF ?_ (by omega) _ _)), (by simp [go_sem]), (by simp [go_sem])⟩
        case round =>
          obtain ⟨k, o1, o2, hk, rfl, HO1, HG, hg, hy, hx⟩ := hrel
          have z1 := row_sz' hx; have z2 := row_sz' hy
          have s1 := fun w => sure_any o1 o2 w HO1.out.1.1 HO1.out.1.2 HO1.out.2.1 HO1.out.2.2
          change ∀ w, Calls _ _ _ w (Gives w (.bool (sureP (o1, o2)))) at s1
          by_cases hlt : k < l.length
          · have hd : l.drop k = l[k] :: l.drop (k + 1) := List.drop_eq_getElem_cons hlt
            have hcl := (HC.out (k + 1) l[k] (by simp [hlt])).grows hg
            rw [show off + (k + 1) * 2 = off + 2 + k * 2 by omega] at hcl
            have zr := lt_sz hcl.lt
            have e3 : segOk (off + 2 + k * 2) 2 (wr.row g) = true := hcl.1
            have e4 : segV (off + 2 + k * 2) 2 (wr.row g) = ratV l[k] := hcl.2
            have hq := HL.out l[k] (List.getElem_mem _)
            have s2 := fun w => sure_any l[k].1 l[k].2 w hq.1.1 hq.1.2 hq.2.1 hq.2.2
            change ∀ w, Calls _ _ _ w (Gives w (.bool (sureP l[k]))) at s2
            have hG := HG.out
            rw [hd] at hG
            generalize l[k] = r at *
            have HRI := Lib.hid hq
            clear hd hcl hq HG
            cases c1 : sureP (o1, o2) with
            | false =>
              have eR : (R1, R2) = (0, 0) := by rw [← hG]; show (if (sureP (o1, o2) && sureP r) = true then _ else _) = _; rw [c1]; rfl
              obtain ⟨rfl, rfl⟩ := Prod.mk.inj eR
              rw [c1] at s1
              obtain ⟨r1, r2⟩ := r
              have S1 := Lib.hid s1; clear s1 s2 hG c1 eR
              go_wp2_with (first | (go_at_call 109; (with_reducible refine (S1.out _).mono ?_); rintro e w1 ⟨rfl, x1, rfl⟩) | ((with_reducible show bodyPost _ _ _ _ _ _); exact ret_23 rfl rfl (by simp [go_sem, hx, hy, z1, z2]) rfl ⟨by simp [go_sem, hx, hy, z1, z2], (by repeat (with_reducible first | assumption | exact grA | apply grB | apply grC | apply grD | refine grE ?_ (by omega) _ | refine grF ?_ (by omega) _ _))⟩))
            | true =>
              cases c2 : sureP r with
              | false =>
                have eR : (R1, R2) = (0, 0) := by rw [← hG]; show (if (sureP (o1, o2) && sureP r) = true then _ else _) = _; rw [c1, c2]; rfl
                obtain ⟨rfl, rfl⟩ := Prod.mk.inj eR
                rw [c1] at s1; rw [c2] at s2
                obtain ⟨r1, r2⟩ := r
                have S1 := Lib.hid s1; have S2 := Lib.hid s2; clear s1 s2 hG c1 c2 eR
                go_wp2_with (first | (go_at_call 109; (with_reducible refine (S1.out _).mono ?_); rintro e w1 ⟨rfl, x1, rfl⟩) | (go_at_call 109; (with_reducible refine (S2.out _).mono ?_); rintro e w1 ⟨rfl, x1, rfl⟩) | ((with_reducible show bodyPost _ _ _ _ _ _); exact ret_23 rfl rfl (by simp [go_sem, hx, hy, z1, z2]) rfl ⟨by simp [go_sem, hx, hy, z1, z2], (by repeat (with_reducible first | assumption | exact grA | apply grB | apply grC | apply grD | refine grE ?_ (by omega) _ | refine grF ?_ (by omega) _ _))⟩))
              | true =>
                have eR : goQ op (op (o1, o2) r) (l.drop (k + 1)) = (R1, R2) := by rw [← hG]; show _ = (if (sureP (o1, o2) && sureP r) = true then _ else _); rw [c1, c2]; rfl
                have f1 := fun w => HF.out (o1, o2) r w HO1.out HRI.out c1 c2
                have hb := HO.out (o1, o2) r
                rw [c1] at s1; rw [c2] at s2
                generalize op (o1, o2) r = Q at *
                obtain ⟨q1, q2⟩ := Q
                obtain ⟨r1, r2⟩ := r
                have S1 := Lib.hid s1; have S2 := Lib.hid s2; have F1 := Lib.hid f1; have HB := Lib.hid hb; have ER := Lib.hid eR; clear s1 s2 hG c1 c2 eR f1 hb
                go_wp2_with (first | (go_at_call 109; (with_reducible refine (S1.out _).mono ?_); rintro e w1 ⟨rfl, x1, rfl⟩) | (go_at_call 109; (with_reducible refine (S2.out _).mono ?_); rintro e w1 ⟨rfl, x1, rfl⟩) | (go_at_call 103; (with_reducible refine (F1.out _).mono ?_); rintro e w1 ⟨rfl, x1, rfl⟩))
                go_roundw
                case rel => exact ⟨k + 1, q1, q2, by omega, by go_num, HB, ER, (by repeat (with_reducible first | assumption | exact grA | apply grB | apply grC | apply grD | refine grE ?_ (by omega) _ | refine grF ?_ (by omega) _ _)), (by simp [go_sem, hx, hy, z1, z2]), (by simp [go_sem, hx, hy, z1, z2])⟩
                case measure => simp [intOf]; omega
          · have hkl : k = l.length := by omega
            have eR : (R1, R2) = (o1, o2) := by rw [← HG.out, hkl, List.drop_length]; rfl
            obtain ⟨rfl, rfl⟩ := Prod.mk.inj eR
            subst hkl
            clear eR HG s1
            go_wp2_with (first | ((with_reducible show bodyPost _ _ _ _ _ _); exact ret_23 rfl rfl (by simp [go_sem, hx, hy, z1, z2]) rfl ⟨by simp [go_sem, hx, hy, z1, z2], (by repeat (with_reducible first | assumption | exact grA | apply grB | apply grC | apply grD | refine grE ?_ (by omega) _ | refine grF ?_ (by omega) _ _))⟩))

end Go.Proofs.Ythmicnjigfcljaa

/- PLAIN ARITHMETIC: sums of fractions in lowest terms; folds over lists; the least and the greatest. No condition; no program. -/
namespace Go
open Go.RowKit

/-- the numerator of a sum -/
def numS (a b c d : Int) : Int := a * d + c * b
def addQ (p q : Int × Int) : Int × Int := if sureB p.1 p.2 && sureB q.1 q.2 then mkQ (negB (numS p.1 p.2 q.1 q.2)) (numS p.1 p.2 q.1 q.2).natAbs (p.2.natAbs * q.2.natAbs) else (0, 0)
theorem addQ_bd (p q : Int × Int) : I64p (addQ p q) := by unfold addQ; split; exact mkQ_bd _ _ _; simp [I64p, I64]
theorem addQ_may (p q : Int × Int) : mayB (addQ p q).1 (addQ p q).2 = true := by unfold addQ; split; exact mkQ_may _ _ _; rfl
theorem mkQ_sign {neg neg' : Bool} {n d : Nat} (h : n = 0 ∨ neg = neg') (hd : 0 < d) : mkQ neg n d = mkQ neg' n d := by
  rcases h with rfl | rfl
  · rw [mkQ_zero _ hd, mkQ_zero _ hd]
  · rfl
/-- the reference's way: by signs and sizes -/
theorem addQ_ref {a b c d : Int} (h1 : sureB a b = true) (h2 : sureB c d = true) : addQ (a, b) (c, d) =
    if negB a = negB c then mkQ (negB a) (a.natAbs * d.natAbs + c.natAbs * b.natAbs) (b.natAbs * d.natAbs)
    else if a.natAbs * d.natAbs < c.natAbs * b.natAbs then mkQ (negB c) (c.natAbs * b.natAbs - a.natAbs * d.natAbs) (b.natAbs * d.natAbs)
    else mkQ (negB a) (a.natAbs * d.natAbs - c.natAbs * b.natAbs) (b.natAbs * d.natAbs) := by
  have hb := (sureB_yes h1).1; have hd := (sureB_yes h2).1
  have hD : 0 < b.natAbs * d.natAbs := Nat.mul_pos (by omega) (by omega)
  have ea : a * d = if negB a then -((a.natAbs * d.natAbs : Nat) : Int) else ((a.natAbs * d.natAbs : Nat) : Int) := by
    unfold negB
    have hd' : (d.natAbs : Int) = d := by omega
    by_cases h : a < 0
    · rw [if_pos (by simpa using h), Int.natCast_mul, hd', show ((a.natAbs : Nat) : Int) = -a by omega, Int.neg_mul, Int.neg_neg]
    · rw [if_neg (by simpa using h), Int.natCast_mul, hd', show ((a.natAbs : Nat) : Int) = a by omega]
  have ec : c * b = if negB c then -((c.natAbs * b.natAbs : Nat) : Int) else ((c.natAbs * b.natAbs : Nat) : Int) := by
    unfold negB
    have hb' : (b.natAbs : Int) = b := by omega
    by_cases h : c < 0
    · rw [if_pos (by simpa using h), Int.natCast_mul, hb', show ((c.natAbs : Nat) : Int) = -c by omega, Int.neg_mul, Int.neg_neg]
    · rw [if_neg (by simpa using h), Int.natCast_mul, hb', show ((c.natAbs : Nat) : Int) = c by omega]
  unfold addQ
  simp only [h1, h2, Bool.and_self, if_true]
  unfold numS
  rw [ea, ec]
  generalize a.natAbs * d.natAbs = x at *
  generalize c.natAbs * b.natAbs = y at *
  generalize b.natAbs * d.natAbs = D at *
  cases negB a <;> cases negB c
  all_goals simp only [if_true, if_false, Bool.false_eq_true, reduceCtorEq]
  · rw [show ((x : Int) + y).natAbs = x + y by omega]; exact mkQ_sign (by unfold negB; simp; omega) hD
  · by_cases h : x < y
    · rw [if_pos h, show ((x : Int) + -y).natAbs = y - x by omega]; exact mkQ_sign (by unfold negB; simp; omega) hD
    · rw [if_neg h, show ((x : Int) + -y).natAbs = x - y by omega]; exact mkQ_sign (by unfold negB; simp; omega) hD
  · by_cases h : x < y
    · rw [if_pos h, show (-(x : Int) + y).natAbs = y - x by omega]; exact mkQ_sign (by unfold negB; simp; omega) hD
    · rw [if_neg h, show (-(x : Int) + y).natAbs = x - y by omega]; exact mkQ_sign (by unfold negB; simp; omega) hD
  · rw [show (-(x : Int) + -y).natAbs = x + y by omega]; exact mkQ_sign (by unfold negB; simp; omega) hD
/-- a divisor of both may be taken out -/
theorem mkQ_cancel {neg : Bool} {n d g : Nat} (hg : 0 < g) : mkQ neg (n * g) (d * g) = mkQ neg n d := by
  unfold mkQ
  rw [Nat.gcd_mul_right, Nat.mul_div_mul_right _ _ hg, Nat.mul_div_mul_right _ _ hg]
theorem gcd_cop {s u g : Nat} (h : Nat.Coprime s u) : Nat.gcd s (u * g) = Nat.gcd s g := by
  rw [Nat.mul_comm]; exact Nat.Coprime.gcd_mul_right_cancel_right g h.symm
theorem cop_of_sum {s x y u : Nat} (hx : Nat.Coprime x u) (hy : u ∣ y) (h : s = x + y ∨ s = x - y ∧ y ≤ x ∨ s = y - x ∧ x ≤ y) : Nat.Coprime s u := by
  have key : ∀ p, p ∣ s → p ∣ u → p ∣ x := fun p h1 h2 => by
    have h3 := Nat.dvd_trans h2 hy
    rcases h with rfl | ⟨rfl, hl⟩ | ⟨rfl, hl⟩
    · exact (Nat.dvd_add_left h3).1 h1
    · have := Nat.dvd_add h1 h3; rwa [Nat.sub_add_cancel hl] at this
    · have := Nat.dvd_sub h3 h1; rwa [Nat.sub_sub_self hl] at this
  have hd := key (Nat.gcd s u) (Nat.gcd_dvd_left _ _) (Nat.gcd_dvd_right _ _)
  have : Nat.gcd s u ∣ Nat.gcd x u := Nat.dvd_gcd hd (Nat.gcd_dvd_right _ _)
  rw [hx] at this
  exact Nat.dvd_one.1 this
/-- the program's way: the common divisor of the denominators taken out first -/
theorem plus_law {neg : Bool} {a b c d s : Nat} (hb : 0 < b) (hd : 0 < d) (h1 : Nat.gcd a b = 1) (h2 : Nat.gcd c d = 1)
    (hs : s = a * (d / Nat.gcd b d) + c * (b / Nat.gcd b d) ∨ s = a * (d / Nat.gcd b d) - c * (b / Nat.gcd b d) ∧ c * (b / Nat.gcd b d) ≤ a * (d / Nat.gcd b d) ∨ s = c * (b / Nat.gcd b d) - a * (d / Nat.gcd b d) ∧ a * (d / Nat.gcd b d) ≤ c * (b / Nat.gcd b d)) :
    mkQ neg (s * Nat.gcd b d) (b * d) = madeQ neg (s / Nat.gcd (s % Nat.gcd b d) (Nat.gcd b d)) (b / Nat.gcd b d * (d / Nat.gcd (s % Nat.gcd b d) (Nat.gcd b d))) := by
  have hg : 0 < Nat.gcd b d := Nat.gcd_pos_of_pos_left _ hb
  have eg : Nat.gcd (s % Nat.gcd b d) (Nat.gcd b d) = Nat.gcd s (Nat.gcd b d) := by rw [← Nat.gcd_rec, Nat.gcd_comm]
  rw [eg]
  have db := Nat.div_mul_cancel (Nat.gcd_dvd_left b d)
  have dd := Nat.div_mul_cancel (Nat.gcd_dvd_right b d)
  have cud : Nat.Coprime (b / Nat.gcd b d) (d / Nat.gcd b d) := Nat.coprime_div_gcd_div_gcd hg
  have ca : Nat.Coprime a (b / Nat.gcd b d) := Nat.Coprime.coprime_dvd_right (Nat.div_dvd_of_dvd (Nat.gcd_dvd_left b d)) h1
  have cc : Nat.Coprime c (d / Nat.gcd b d) := Nat.Coprime.coprime_dvd_right (Nat.div_dvd_of_dvd (Nat.gcd_dvd_right b d)) h2
  generalize hu : b / Nat.gcd b d = u at *
  generalize ho : d / Nat.gcd b d = o at *
  generalize Nat.gcd b d = g at *
  have s1 : Nat.Coprime s u := cop_of_sum (x := a * o) (y := c * u) (Nat.Coprime.mul_left ca cud.symm) (Nat.dvd_mul_left u c) hs
  have s2 : Nat.Coprime s o := cop_of_sum (x := c * u) (y := a * o) (Nat.Coprime.mul_left cc cud) (Nat.dvd_mul_left o a) (by
    rcases hs with h | h | h
    · exact .inl (h.trans (Nat.add_comm _ _))
    · exact .inr (.inr h)
    · exact .inr (.inl h))
  have e1 : b * d = u * d * g := by rw [← db, Nat.mul_right_comm]
  rw [e1, mkQ_cancel hg]
  unfold mkQ
  have e2 : Nat.gcd s (u * d) = Nat.gcd s g := by
    rw [gcd_cop s1, ← dd, gcd_cop s2]
  rw [e2]
  have hk : Nat.gcd s g ∣ d := Nat.dvd_trans (Nat.gcd_dvd_right _ _) (by rw [← dd]; exact Nat.dvd_mul_left g o)
  rw [Nat.mul_div_assoc _ hk]
theorem plus_num {a b c d : Nat} (hb : 0 < b) : a * d = a * (d / Nat.gcd b d) * Nat.gcd b d ∧ c * b = c * (b / Nat.gcd b d) * Nat.gcd b d := by
  rw [Nat.mul_assoc, Nat.mul_assoc, Nat.div_mul_cancel (Nat.gcd_dvd_right b d), Nat.div_mul_cancel (Nat.gcd_dvd_left b d)]; exact ⟨rfl, rfl⟩

/-! folds -/
def cleanQ (p : Int × Int) : Int × Int := if mayB p.1 p.2 then p else (0, 0)
def negQ (p : Int × Int) : Int × Int := if sureP p then (-p.1, p.2) else (0, 0)
theorem goQ_foldl (op : Int × Int → Int × Int → Int × Int) (hop : ∀ p q, sureP p = false ∨ sureP q = false → op p q = (0, 0)) : ∀ (l : List (Int × Int)) (out : Int × Int), goQ op out l = l.foldl op out
  | [], _ => rfl
  | r :: l, out => by
    show (if (sureP out && sureP r) = true then goQ op (op out r) l else (0, 0)) = l.foldl op (op out r)
    have hz : ∀ l : List (Int × Int), l.foldl op (0, 0) = (0, 0) := fun l => by
      induction l with
      | nil => rfl
      | cons x l ih => show l.foldl op (op (0, 0) x) = _; rw [hop _ _ (.inl rfl)]; exact ih
    by_cases h : (sureP out && sureP r) = true
    · rw [if_pos h]; exact goQ_foldl op hop l _
    · rw [if_neg h, hop _ _ (by cases h1 : sureP out <;> cases h2 : sureP r <;> simp_all), hz]
/-- the reference's fold -/
def refFold (none : Int × Int) (op : Int × Int → Int × Int → Int × Int) : List (Int × Int) → Int × Int
  | [] => none
  | p :: l => l.foldl op (cleanQ p)
theorem foldQ_ref (none : Int × Int) (op : Int × Int → Int × Int → Int × Int) (hop : ∀ p q, sureP p = false ∨ sureP q = false → op p q = (0, 0)) (l : List (Int × Int)) : foldQ none op l = refFold none op l := by
  cases l with
  | nil => rfl
  | cons p l =>
    show (if sureP p = true then goQ op p l else (0, 0)) = l.foldl op (cleanQ p)
    by_cases h : sureP p = true
    · have : cleanQ p = p := by unfold cleanQ; rw [if_pos]; unfold mayB; unfold sureP at h; rw [h]; simp
      rw [if_pos h, this, goQ_foldl op hop]
    · have : cleanQ p = (0, 0) := by
        unfold cleanQ
        by_cases hm : mayB p.1 p.2 = true
        · rw [if_pos hm]; unfold mayB at hm; unfold sureP at h; simp [h] at hm; exact Prod.ext hm.1 hm.2
        · rw [if_neg hm]
      rw [if_neg h, this]
      induction l with
      | nil => rfl
      | cons x l ih => show _ = l.foldl op (op (0, 0) x); rw [hop _ _ (.inl rfl)]; exact ih
theorem addQ_over {p q : Int × Int} (h : sureP p = false ∨ sureP q = false) : addQ p q = (0, 0) := by
  unfold addQ; unfold sureP at h; rcases h with h | h <;> simp [h]
theorem mulQ_over {p q : Int × Int} (h : sureP p = false ∨ sureP q = false) : mulQ p q = (0, 0) := by
  unfold mulQ; unfold sureP at h; rcases h with h | h <;> simp [h]
/-- the one that no other one is ahead of -/
def pickQ (sign : Int) (b r : Int × Int) : Int × Int := if cmpI r.1 r.2 b.1 b.2 = sign then r else b
def bestQ (sign : Int) : List (Int × Int) → Int × Int
  | [] => (0, 0)
  | p :: l => if (p :: l).all sureP then l.foldl (pickQ sign) p else (0, 0)
end Go

/- TREES of expressions: as they stand in memory; which may be, of which kind each is, which number. No condition; no program. -/
namespace Go
open Go.RowKit

inductive Ex where
  | mk (k n d u : Int) (kids : List Ex)
abbrev exL (k n d u : Int) (a : Option Addr) (len cap : Nat) : List Value := [.int .i64 k, .int .i64 n, .int .i64 d, .int .i64 u, .slice a len cap]
/-- the tree (no deeper than the number) stands in memory, its head in these cells -/
def ExAt (w : World) : Nat → Ex → List Value → Prop
  | 0, _, _ => False
  | m + 1, .mk k n d u kids, cs => I64 k ∧ I64 n ∧ I64 d ∧ I64 u ∧ ∃ (a : Option Addr) (cap : Nat), cs = exL k n d u a kids.length cap ∧ kids.length ≤ cap ∧ cap ≤ 9223372036854775807 ∧
      (kids = [] ∨ ∃ (g off : Nat), a = some ⟨g, off, none⟩ ∧ ∀ (i : Nat) (t : Ex), kids[i]? = some t → ∃ cs', eltAt w g (off + i * 5) cs' ∧ ExAt w m t cs')
theorem ExAt.grows {w W : World} (hg : w.grows W) : ∀ (m : Nat) (t : Ex) (cs : List Value), ExAt w m t cs → ExAt W m t cs
  | 0, _, _, h => h
  | m + 1, .mk k n d u kids, cs, h => by
    obtain ⟨h1, h2, h3, h4, a, cap, h5, h6, h7, h8⟩ := h
    refine ⟨h1, h2, h3, h4, a, cap, h5, h6, h7, ?_⟩
    rcases h8 with h8 | ⟨g, off, h9, h10⟩
    · exact .inl h8
    · exact .inr ⟨g, off, h9, fun i t hi => by
        obtain ⟨cs', x, y⟩ := h10 i t hi
        exact ⟨cs', x.grows hg, ExAt.grows hg m t cs' y⟩⟩

/-- how many kids a kind may have -/
def lenOk (k : Int) (n : Nat) : Bool :=
  if k = 2 ∨ k = 4 ∨ k = 6 ∨ k = 7 then decide (1 ≤ n) else if k = 3 ∨ k = 5 then decide (n = 1) else if k = 8 then decide (n = 3) else false
/-- may it be? -/
def mayE : Nat → Nat → Ex → Bool
  | 0, _, _ => false
  | m + 1, left, .mk k n d u kids =>
    if left = 0 then false
    else if k = 1 then decide (kids.length = 0) && (mayB n d && (decide (0 ≤ u) && decide (u ≤ 7)))
    else (decide (n = 0) && decide (d = 0)) && (decide (u = 0) && (lenOk k kids.length && kids.all (mayE m (left - 1))))
/-- of which kind: 1 a number, 2 a length, 0 none -/
def kindE : Nat → Ex → Int
  | 0, _ => 0
  | m + 1, .mk k n d u kids =>
    if k = 1 then (if u = 0 then 1 else 2)
    else if (kids.map (kindE m)).any (· == 0) then 0
    else
      let c := (kids.map (kindE m)).countP (· == 2)
      if c = 0 then 1 else if (k = 4 ∧ c = 1) ∨ (k ≠ 4 ∧ k ≠ 5 ∧ c = kids.length) then 2 else 0
theorem kindE_range : ∀ (m : Nat) (t : Ex), kindE m t = 0 ∨ kindE m t = 1 ∨ kindE m t = 2
  | 0, _ => .inl rfl
  | m + 1, .mk k n d u kids => by
    unfold kindE
    split
    · split <;> simp
    · split
      · simp
      · dsimp only
        split
        · simp
        · split <;> simp
/-- its number, reckoned -/
def numE : Nat → Ex → Int × Int
  | 0, _ => (0, 0)
  | m + 1, .mk k n d u kids =>
    let l := kids.map (numE m)
    if k = 2 then foldQ (0, 1) addQ l
    else if k = 3 then negQ (l.getD 0 (0, 0))
    else if k = 4 then foldQ (1, 1) mulQ l
    else if k = 5 then divQ (1, 1) (l.getD 0 (0, 0))
    else if k = 6 then bestQ (-1) l
    else if k = 7 then bestQ 1 l
    else if k = 8 then bestQ 1 [l.getD 0 (0, 0), bestQ (-1) [l.getD 1 (0, 0), l.getD 2 (0, 0)]]
    else (n, d)
end Go

/- PLAIN: the value of a tree of expressions, with sizes for its units; how many nodes it has. No condition; no program. -/
namespace Go
open Go.RowKit

/-- how many nodes -/
def szE : Nat → Ex → Nat
  | 0, _ => 1
  | m + 1, .mk _ _ _ _ kids => 1 + (kids.map (szE m)).sum
theorem szE_pos : ∀ (m : Nat) (t : Ex), 1 ≤ szE m t
  | 0, _ => Nat.le_refl _
  | m + 1, .mk _ _ _ _ kids => by unfold szE; omega
theorem sum_ge_length {α : Type} (f : α → Nat) (hf : ∀ x, 1 ≤ f x) : ∀ l : List α, l.length ≤ (l.map f).sum
  | [] => Nat.le_refl _
  | x :: l => by have := sum_ge_length f hf l; have := hf x; simp; omega
theorem sum_ge_mem {α : Type} (f : α → Nat) : ∀ (l : List α) (x : α), x ∈ l → f x ≤ (l.map f).sum
  | y :: l, x, h => by
    rcases List.mem_cons.1 h with rfl | h
    · simp
    · have := sum_ge_mem f l x h; simp; omega
theorem szE_kids {m : Nat} {k n d u : Int} {kids : List Ex} : kids.length < szE (m + 1) (.mk k n d u kids) := by
  have := sum_ge_length (szE m) (szE_pos m) kids; unfold szE; omega
theorem szE_kid {m : Nat} {k n d u : Int} {kids : List Ex} {t : Ex} (h : t ∈ kids) : szE m t < szE (m + 1) (.mk k n d u kids) := by
  have := sum_ge_mem (szE m) kids t h; show szE m t < 1 + (kids.map (szE m)).sum; omega

theorem goQ_bd {op : Int × Int → Int × Int → Int × Int} (hop : ∀ p q, I64p (op p q)) : ∀ (l : List (Int × Int)) (out : Int × Int), I64p out → I64p (goQ op out l)
  | [], _, h => h
  | r :: l, out, _ => by
    show I64p (if (sureP out && sureP r) = true then goQ op (op out r) l else (0, 0))
    split
    · exact goQ_bd hop l _ (hop _ _)
    · simp [I64p, I64]
theorem foldQ_bd {none : Int × Int} {op : Int × Int → Int × Int → Int × Int} (hop : ∀ p q, I64p (op p q)) (h0 : I64p none) {l : List (Int × Int)} (hl : ∀ p ∈ l, I64p p) : I64p (foldQ none op l) := by
  cases l with
  | nil => exact h0
  | cons p l =>
    show I64p (if sureP p = true then goQ op p l else (0, 0))
    split
    · exact goQ_bd hop l p (hl p (by simp))
    · simp [I64p, I64]
theorem foldl_pick_mem (way : Int) : ∀ (l : List (Int × Int)) (p : Int × Int), l.foldl (pickQ way) p ∈ p :: l
  | [], p => by simp
  | r :: l, p => by
    have h := foldl_pick_mem way l (pickQ way p r)
    show l.foldl (pickQ way) (pickQ way p r) ∈ p :: r :: l
    rcases List.mem_cons.1 h with h | h
    · rw [h]; unfold pickQ; split <;> simp
    · simp [h]
theorem bestQ_mem (way : Int) (l : List (Int × Int)) : bestQ way l = (0, 0) ∨ (bestQ way l ∈ l ∧ sureP (bestQ way l) = true) := by
  cases l with
  | nil => exact .inl rfl
  | cons p l =>
    show (if (p :: l).all sureP = true then l.foldl (pickQ way) p else (0, 0)) = (0, 0) ∨ _
    by_cases h : (p :: l).all sureP = true
    · right
      have e : bestQ way (p :: l) = l.foldl (pickQ way) p := by show (if _ then _ else _) = _; rw [if_pos h]
      have hm := foldl_pick_mem way l p
      rw [e]
      exact ⟨hm, List.all_eq_true.1 h _ hm⟩
    · rw [if_neg h]; exact .inl rfl
theorem bestQ_bd {way : Int} {l : List (Int × Int)} (hl : ∀ p ∈ l, I64p p) : I64p (bestQ way l) := by
  rcases bestQ_mem way l with h | h
  · rw [h]; simp [I64p, I64]
  · exact hl _ h.1
theorem negQ_bd {p : Int × Int} (h : I64p p) : I64p (negQ p) := by
  unfold negQ sureP; split
  · rename_i hs
    have hy := (sureB_yes hs).2
    have := h.1; have := h.2
    simp only [I64p, I64] at *; omega
  · simp [I64p, I64]
theorem getD_bd {l : List (Int × Int)} (hl : ∀ p ∈ l, I64p p) (i : Nat) : I64p (l.getD i (0, 0)) := by
  rw [List.getD_eq_getElem?_getD]
  cases h : l[i]? with
  | none => simp [I64p, I64]
  | some p => exact hl p (List.mem_of_getElem? h)

/-- its value, reckoned as it is written; a unit is as great as sz says -/
def valE (sz : Int → Int × Int) : Nat → Ex → Int × Int
  | 0, _ => (0, 0)
  | m + 1, .mk k n d u kids =>
    let l := kids.map (valE sz m)
    if k = 2 then foldQ (0, 1) addQ l
    else if k = 3 then negQ (l.getD 0 (0, 0))
    else if k = 4 then foldQ (1, 1) mulQ l
    else if k = 5 then divQ (1, 1) (l.getD 0 (0, 0))
    else if k = 6 then bestQ (-1) l
    else if k = 7 then bestQ 1 l
    else if k = 8 then bestQ 1 [l.getD 0 (0, 0), bestQ (-1) [l.getD 1 (0, 0), l.getD 2 (0, 0)]]
    else if u = 0 then (n, d) else foldQ (1, 1) mulQ [(n, d), sz u]
/-- every number in it is a number of 64 bits -/
def bdE : Nat → Ex → Prop
  | 0, _ => True
  | m + 1, .mk _ n d _ kids => I64p (n, d) ∧ ∀ t ∈ kids, bdE m t
theorem ExAt_bd {w : World} : ∀ (m : Nat) (t : Ex) (cs : List Value), ExAt w m t cs → bdE m t
  | 0, _, _, _ => trivial
  | m + 1, .mk k n d u kids, cs, h => by
    obtain ⟨_, h2, h3, _, a, cap, _, _, _, h8⟩ := h
    refine ⟨⟨h2, h3⟩, fun t ht => ?_⟩
    rcases h8 with h8 | ⟨g, off, _, h10⟩
    · rw [h8] at ht; cases ht
    · obtain ⟨i, hi, rfl⟩ := List.mem_iff_getElem.1 ht
      obtain ⟨cs', _, y⟩ := h10 i kids[i] (by simp [hi])
      exact ExAt_bd m _ _ y
theorem valE_bd {sz : Int → Int × Int} (hsz : ∀ u, I64p (sz u)) : ∀ (m : Nat) (t : Ex), bdE m t → I64p (valE sz m t)
  | 0, _, _ => by simp [valE, I64p, I64]
  | m + 1, .mk k n d u kids, h => by
    have hl : ∀ p ∈ kids.map (valE sz m), I64p p := fun p hp => by
      obtain ⟨t, ht, rfl⟩ := List.mem_map.1 hp
      exact valE_bd hsz m t (h.2 t ht)
    have h01 : I64p (0, 1) := by simp [I64p, I64]
    have h11 : I64p (1, 1) := by simp [I64p, I64]
    unfold valE
    dsimp only
    repeat' split
    · exact foldQ_bd addQ_bd h01 hl
    · exact negQ_bd (getD_bd hl 0)
    · exact foldQ_bd (fun p q => mulQ_bd p q) h11 hl
    · exact divQ_bd _ _
    · exact bestQ_bd hl
    · exact bestQ_bd hl
    · exact bestQ_bd fun p hp => by
        rcases List.mem_cons.1 hp with rfl | hp
        · exact getD_bd hl 0
        · rw [List.mem_singleton.1 hp]
          exact bestQ_bd fun p hp => by
            rcases List.mem_cons.1 hp with rfl | hp
            · exact getD_bd hl 1
            · rw [List.mem_singleton.1 hp]; exact getD_bd hl 2
    · exact h.1
    · exact foldQ_bd (fun p q => mulQ_bd p q) h11 fun p hp => by
        rcases List.mem_cons.1 hp with rfl | hp
        · exact h.1
        · rw [List.mem_singleton.1 hp]; exact hsz u
/-- a number's value asks for no unit -/
theorem valE_num (sz : Int → Int × Int) : ∀ (m : Nat) (t : Ex) (left : Nat), mayE m left t = true → kindE m t = 1 → valE sz m t = numE m t
  | 0, _, _, _, _ => rfl
  | m + 1, .mk k n d u kids, left, hm, hk => by
    by_cases k1 : k = 1
    · subst k1
      have hu : u = 0 := by
        simp only [kindE, if_true] at hk
        by_cases h : u = 0
        · exact h
        · rw [if_neg h] at hk; cases hk
      simp [valE, numE, hu]
    · have hkids : kids.all (mayE m (left - 1)) = true := by
        simp only [mayE, if_neg k1] at hm
        split at hm
        · cases hm
        · simp only [Bool.and_eq_true] at hm; exact hm.2.2.2
      have hall : ∀ t ∈ kids, kindE m t = 1 := by
        simp only [kindE, if_neg k1] at hk
        split at hk
        · cases hk
        · rename_i h0
          split at hk
          · rename_i hc
            intro t ht
            rcases kindE_range m t with h | h | h
            · exact absurd (List.any_eq_true.2 ⟨kindE m t, List.mem_map_of_mem ht, by simpa using h⟩) h0
            · exact h
            · have := List.countP_eq_zero.1 hc (kindE m t) (List.mem_map_of_mem ht)
              simp [h] at this
          · split at hk <;> cases hk
      have e : kids.map (valE sz m) = kids.map (numE m) := List.map_congr_left fun t ht => valE_num sz m t (left - 1) (List.all_eq_true.1 hkids t ht) (hall t ht)
      have e2 : ¬ (k = 1) := k1
      unfold valE numE
      rw [e]
      dsimp only
      by_cases hx : k = 2 ∨ k = 3 ∨ k = 4 ∨ k = 5 ∨ k = 6 ∨ k = 7 ∨ k = 8
      · rcases hx with rfl | rfl | rfl | rfl | rfl | rfl | rfl <;> simp
      · have : lenOk k kids.length = true := by
          simp only [mayE, if_neg k1] at hm
          split at hm
          · cases hm
          · simp only [Bool.and_eq_true] at hm; exact hm.2.2.1
        unfold lenOk at this
        rw [if_neg (by omega), if_neg (by omega), if_neg (by omega)] at this
        cases this
theorem numE_bd : ∀ (m : Nat) (t : Ex), bdE m t → I64p (numE m t)
  | 0, _, _ => by simp [numE, I64p, I64]
  | m + 1, .mk k n d u kids, h => by
    have hl : ∀ p ∈ kids.map (numE m), I64p p := fun p hp => by
      obtain ⟨t, ht, rfl⟩ := List.mem_map.1 hp
      exact numE_bd m t (h.2 t ht)
    have h01 : I64p (0, 1) := by simp [I64p, I64]
    have h11 : I64p (1, 1) := by simp [I64p, I64]
    unfold numE
    dsimp only
    repeat' split
    · exact foldQ_bd addQ_bd h01 hl
    · exact negQ_bd (getD_bd hl 0)
    · exact foldQ_bd (fun p q => mulQ_bd p q) h11 hl
    · exact divQ_bd _ _
    · exact bestQ_bd hl
    · exact bestQ_bd hl
    · exact bestQ_bd fun p hp => by
        rcases List.mem_cons.1 hp with rfl | hp
        · exact getD_bd hl 0
        · rw [List.mem_singleton.1 hp]
          exact bestQ_bd fun p hp => by
            rcases List.mem_cons.1 hp with rfl | hp
            · exact getD_bd hl 1
            · rw [List.mem_singleton.1 hp]; exact getD_bd hl 2
    · exact h.1
theorem len_one {α : Type} {l : List α} (h : l.length = 1) : ∃ p, l = [p] := List.length_eq_one_iff.1 h
theorem len_three {α : Type} : ∀ {l : List α}, l.length = 3 → ∃ p q r, l = [p, q, r]
  | [p, q, r], _ => ⟨p, q, r, rfl⟩
end Go

/- WALKS over rat: products of lists, quotients. No condition but that numbers are of their kinds. -/
namespace Go
open Go.RowKit
theorem rats2 {W : World} {g : Nat} {a b c d : Int} {t : TypeId} (h : W.row g = some (.cells #[.int .i64 a, .int .i64 b, .int .i64 c, .int .i64 d] t)) (h1 : I64p (a, b)) (h2 : I64p (c, d)) :
    RatsAt W (.slice (some ⟨g, 0, none⟩) 2 2) [(a, b), (c, d)] := by
  refine ⟨_, 2, rfl, by simp, by omega, fun p hp => ?_, .inr ⟨g, 0, rfl, fun i p hi => ?_⟩⟩
  · simp at hp; rcases hp with rfl | rfl <;> assumption
  · unfold eltAt
    rw [h]
    match i with
    | 0 => simp at hi; subst hi; exact ⟨rfl, rfl⟩
    | 1 => simp at hi; subst hi; exact ⟨rfl, rfl⟩
    | i + 2 => simp at hi
theorem foldQ2 (n p q : Int × Int) : foldQ n mulQ [p, q] = mulQ p q := by
  show (if sureP p = true then goQ mulQ p [q] else (0, 0)) = _
  cases h : sureP p
  · unfold sureP at h; unfold mulQ; rw [h]; rfl
  · simp only [if_true]
    unfold goQ
    rw [h]
    cases h2 : sureP q
    · unfold sureP at h2; unfold mulQ; rw [h2]; simp
    · rfl
end Go
namespace Go.Proofs.Ythmicnjigfcljaa
open Go.RowKit

theorem mulF_any (p q : Int × Int) (w : World) (hp : I64p p) (hq : I64p q) (h1 : sureP p = true) (h2 : sureP q = true) : Calls Try.prog 104 #[ratV p, ratV q] w (Gives w (ratV (mulQ p q))) :=
  times_mul p.1 p.2 q.1 q.2 w hp.1 hp.2 hq.1 hq.2 h1 h2

set_option maxRecDepth 100000 in
theorem ratMul_any (v : Value) (l : List (Int × Int)) (w : World) (hr : RatsAt w v l) : Calls Try.prog 77 #[v] w (Gives w (ratV (foldQ (1, 1) mulQ l))) := by
  have h1 := fun W (hg : w.grows W) => folded_times mulQ (fun p q => mulQ_bd p q) mulF_any (1, 1) v l W (hr.grows hg)
  generalize foldQ (1, 1) mulQ l = R at *
  obtain ⟨R1, R2⟩ := R
  have H1 := Lib.hid h1; clear h1 hr
  go_enter Try.func77, Try.ntmps77
  go_wp2_with (first | (go_at_call 102; (with_reducible refine (H1.out _ (by repeat (with_reducible first | assumption | exact grA | apply grB | apply grC | apply grD | refine grE ?_ (by omega) _ | refine grF ?_ (by omega) _ _))).mono ?_); rintro e w1 ⟨rfl, x1, rfl⟩) | ((with_reducible show bodyPost _ _ _ _ _ _); exact ret_23 rfl rfl (by simp [go_sem]) rfl ⟨by simp [go_sem], (by repeat (first | exact grA | apply grB | apply grC | apply grD))⟩))

set_option maxRecDepth 100000 in
theorem ratDiv_any (a b c d : Int) (w : World) (wa : I64 a) (wb : I64 b) (wc : I64 c) (wd : I64 d) :
    Calls Try.prog 87 #[.agg #[.int .i64 a, .int .i64 b], .agg #[.int .i64 c, .int .i64 d]] w (Gives w (ratV (divQ (a, b) (c, d)))) := by
  have s2 := fun w => sure_any c d w wc.1 wc.2 wd.1 wd.2
  cases t2 : sureB c d with
  | false =>
    rw [t2] at s2
    have er : divQ (a, b) (c, d) = (0, 0) := by unfold divQ; simp [t2]
    rw [er]
    have S2 := Lib.hid s2; clear s2 t2 er
    go_enter Try.func87, Try.ntmps87
    go_wp2_with (first | (go_at_call 109; (with_reducible refine (S2.out _).mono ?_); rintro e w1 ⟨rfl, x1, rfl⟩) | ((with_reducible show bodyPost _ _ _ _ _ _); exact ret_23 rfl rfl (by simp [go_sem]) rfl ⟨by simp [go_sem], (by repeat (first | exact grA | apply grB | apply grC | apply grD))⟩))
  | true =>
    rw [t2] at s2
    by_cases hc : c = 0
    · have er : divQ (a, b) (c, d) = (0, 0) := by unfold divQ; simp [hc]
      rw [er]; subst hc
      have S2 := Lib.hid s2; clear s2 t2 er
      go_enter Try.func87, Try.ntmps87
      go_wp2_with (first | (go_at_call 109; (with_reducible refine (S2.out _).mono ?_); rintro e w1 ⟨rfl, x1, rfl⟩) | ((with_reducible show bodyPost _ _ _ _ _ _); exact ret_23 rfl rfl (by simp [go_sem]) rfl ⟨by simp [go_sem], (by repeat (first | exact grA | apply grB | apply grC | apply grD))⟩))
    · rw [div_turn t2 wd.2 hc]
      have hy := sureB_yes t2
      have hc0 : (c == 0) = false := by simpa using hc
      have lc := wc.1; have uc := wc.2; have ld := wd.1; have ud := wd.2
      have h1 := fun W v hv => ratMul_any v [(a, b), turnQ (c, d)] W hv
      rw [foldQ2] at h1
      have S2 := Lib.hid s2
      by_cases hn : c < 0
      · have et : turnQ (c, d) = (-d, -c) := by unfold turnQ; exact if_pos hn
        rw [et] at h1 ⊢
        have i1 : I64p (a, b) := ⟨wa, wb⟩
        have i2 : I64p (-d, -c) := ⟨by unfold I64; omega, by unfold I64; omega⟩
        generalize mulQ (a, b) (-d, -c) = R at *
        obtain ⟨R1, R2⟩ := R
        have H1 := Lib.hid h1; have I1 := Lib.hid i1; have I2 := Lib.hid i2
        have nd : -9223372036854775807 ≤ -d := by omega
        have nd1 : 1 ≤ d := hy.1
        have nd2 : -d ≤ 9223372036854775807 := by omega
        have nc2 : -c ≤ 9223372036854775807 := by omega
        clear s2 t2 h1 i1 i2 hc wa wb wc wd et hy
        go_enter Try.func87, Try.ntmps87
        go_wp2_with (first | (go_at_call 109; (with_reducible refine (S2.out _).mono ?_); rintro e w1 ⟨rfl, x1, rfl⟩) | (go_at_call 77; (with_reducible refine (H1.out _ _ (rats2 (t := 23) ?_ I1.out I2.out)).mono ?_); (simp [go_sem]); rintro e w1 ⟨rfl, x1, rfl⟩) | ((with_reducible show bodyPost _ _ _ _ _ _); exact ret_23 rfl rfl (by simp [go_sem]) rfl ⟨by simp [go_sem], (by repeat (first | exact grA | apply grB | apply grC | apply grD))⟩))
      · have et : turnQ (c, d) = (d, c) := by unfold turnQ; exact if_neg hn
        rw [et] at h1 ⊢
        have i1 : I64p (a, b) := ⟨wa, wb⟩
        have i2 : I64p (d, c) := ⟨wd, wc⟩
        generalize mulQ (a, b) (d, c) = R at *
        obtain ⟨R1, R2⟩ := R
        have H1 := Lib.hid h1; have I1 := Lib.hid i1; have I2 := Lib.hid i2
        clear s2 t2 h1 i1 i2 hc wa wb wc wd et hy
        go_enter Try.func87, Try.ntmps87
        go_wp2_with (first | (go_at_call 109; (with_reducible refine (S2.out _).mono ?_); rintro e w1 ⟨rfl, x1, rfl⟩) | (go_at_call 77; (with_reducible refine (H1.out _ _ (rats2 (t := 23) ?_ I1.out I2.out)).mono ?_); (simp [go_sem]); rintro e w1 ⟨rfl, x1, rfl⟩) | ((with_reducible show bodyPost _ _ _ _ _ _); exact ret_23 rfl rfl (by simp [go_sem]) rfl ⟨by simp [go_sem], (by repeat (first | exact grA | apply grB | apply grC | apply grD))⟩))

end Go.Proofs.Ythmicnjigfcljaa

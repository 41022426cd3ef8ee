/- WALKS over memo, sync/atomic: a count goes up by one; a count is read. No condition but that the count stands in memory and is far from its end. -/
import Derived.Test.YtjfccilmlmimaaaPtL
import Derived.Laws.LoneSync
set_option linter.unusedSimpArgs false
set_option linter.unusedVariables false
namespace Go.Proofs.Ytjfccilmlmimaaa
open Go.RowKit Go.Maps

set_option maxRecDepth 100000 in
set_option maxHeartbeats 4000000 in
theorem sum_any (n : Int) (w : World) (h0 : 0 ≤ n) (h1 : n ≤ 4611686018427387904) : Calls Try.prog 57 #[.int .i64 n, .int .i64 1] w (Gives w (.int .i64 (n + 1))) := by
  have n1 : ¬ n < 0 := by omega
  have n2 : ¬ n + 1 < 0 := by omega
  have n3 : IntKind.wrap .i64 (n + 1) = n + 1 := wrapI (by omega) (by omega)
  go_enter Try.func57, Try.ntmps57
  go_wp2_with fail
  go_ret
  exact ⟨rfl, (by repeat (with_reducible first | assumption | exact grA | apply grB | apply grC | apply grD | refine grE ?_ (by omega) _ | refine grF ?_ (by omega) _ _))⟩
set_option maxRecDepth 100000 in
set_option maxHeartbeats 4000000 in
theorem cntLoad_any (ix : Nat) (v : Value) (n : Int) (t : TypeId) (w : World) (hx : w.row ix = some (.cells #[v, .int .i64 n] t)) : Calls Try.prog 52 #[.pointer (some ⟨ix, 1, none⟩)] w fun e w' => e = .returned (.int .i64 n) ∧ w' = w := by
  have zx := row_sz' hx
  have hc : w.cell? ⟨ix, 1, none⟩ = some (.int .i64 n) := by rw [World.cell?_row, hx]; rfl
  have hld := run_call_load (P := Try.prog) Try.func61 (by kernel_rfl) (by kernel_rfl) (by kernel_rfl) .i64 (by kernel_rfl) hc
  go_enter Try.func52, Try.ntmps52
  go_wp2_with fail
  go_ret
  exact ⟨rfl, rfl⟩
set_option maxRecDepth 100000 in
set_option maxHeartbeats 4000000 in
theorem cntCas_any (ix : Nat) (v : Value) (n m : Int) (t : TypeId) (w : World) (hx : w.row ix = some (.cells #[v, .int .i64 n] t)) : Calls Try.prog 58 #[.pointer (some ⟨ix, 1, none⟩), .int .i64 n, .int .i64 m] w fun e w' => e = .returned (.bool true) ∧ w' = w.setCell ⟨ix, 1, none⟩ (.int .i64 m) := by
  have zx := row_sz' hx
  have hc : w.cell? ⟨ix, 1, none⟩ = some (.int .i64 n) := by rw [World.cell?_row, hx]; rfl
  have hf : w.frozen? ⟨ix, 1, none⟩ = false := by rw [World.frozen?_row, hx]; simp [frozenR]
  have hld := run_call_cas_hit (P := Try.prog) Try.func63 (by kernel_rfl) (by kernel_rfl) (by kernel_rfl) .i64 (by kernel_rfl) (y := m) hc hf
  go_enter Try.func58, Try.ntmps58
  go_wp2_with fail
  go_ret
  exact ⟨rfl, rfl⟩
set_option maxRecDepth 100000 in
set_option maxHeartbeats 4000000 in
theorem cntAdd_any (ix : Nat) (v : Value) (n : Int) (t : TypeId) (w : World) (hx : w.row ix = some (.cells #[v, .int .i64 n] t)) (h0 : 0 ≤ n) (h1 : n ≤ 4611686018427387904) :
    Calls Try.prog 46 #[.pointer (some ⟨ix, 1, none⟩), .int .i64 1] w fun e w' => e = .returned (.int .i64 (n + 1)) ∧ On ix w w' ∧ w'.row ix = some (.cells #[v, .int .i64 (n + 1)] t) := by
  have zx := row_sz' hx
  have s1 := fun W => sum_any n W h0 h1
  have S1 := Lib.hid s1; have H0 := Lib.hid h0; have H1 := Lib.hid h1
  clear s1 h0 h1
  go_enter Try.func46, Try.ntmps46
  go_wp2_with fail
  go_loopg [5, 6] 0 (fun gn v5 v6 wj => wj = w)
  case atStart => exact rfl
  case round =>
    obtain rfl := hrel
    go_wp2_with (first
      | (go_at_call 52; (with_reducible refine (cntLoad_any ix v n t _ hx).mono ?_); rintro e w1 ⟨rfl, rfl⟩)
      | (go_at_call 57; (with_reducible refine (S1.out _).mono ?_); rintro e w1 ⟨rfl, x1, rfl⟩)
      | (go_at_call 58; (with_reducible refine (cntCas_any ix v n (n + 1) t _ (by simp [go_sem, hx, zx])).mono ?_); rintro e w1 ⟨rfl, rfl⟩))
    go_ret
    exact ⟨rfl, On.grow (On.set (On.refl ix _) 1 _) ⟨x1, rfl⟩, by simp [go_sem, hx, zx]⟩
set_option maxRecDepth 100000 in
set_option maxHeartbeats 4000000 in
theorem cntValue_any (ix : Nat) (v : Value) (n : Int) (t : TypeId) (w : World) (hx : w.row ix = some (.cells #[v, .int .i64 n] t)) :
    Calls Try.prog 39 #[.pointer (some ⟨ix, 1, none⟩)] w fun e w' => e = .returned (.int .i64 n) ∧ w' = w := by
  have zx := row_sz' hx
  go_enter Try.func39, Try.ntmps39
  go_wp2_with (first | (go_at_call 52; (with_reducible refine (cntLoad_any ix v n t _ hx).mono ?_); rintro e w1 ⟨rfl, rfl⟩))
  go_ret
  exact ⟨rfl, rfl⟩
end Go.Proofs.Ytjfccilmlmimaaa

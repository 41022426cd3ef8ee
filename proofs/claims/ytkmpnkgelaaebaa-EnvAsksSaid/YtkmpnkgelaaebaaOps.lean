/- LAWS of this program's struct types: a whole row loaded, stored, built, compared. No condition. -/
import Derived.Test.YtkmpnkgelaaebaaProg
import Derived.Test.YtkmpnkgelaaebaaKit
import Derived.Test.YtkmpnkgelaaebaaExec
set_option linter.unusedSimpArgs false
set_option linter.unusedVariables false
namespace Go.Proofs.Ytkmpnkgelaaebaa
open Go.RowKit

/-- api.Rat -/
@[go_sem high] theorem load_23 (w : World) (g : Nat) (h : rowOk 2 (w.row g) = true) : (loadR 23 (.pointer (some ⟨g, 0, none⟩))).run Try.prog w = .ok (rowV (w.row g)) w :=
  run_loadR_row w Try.underlying23 rfl (by kernel_rfl) h
@[go_sem high] theorem store_23 (w : World) (g : Nat) (x0 : Int) (x1 : Int) (h : rowOkW 2 (w.row g) = true) : (storeR 23 (.pointer (some ⟨g, 0, none⟩)) (.agg #[.int .i64 x0, .int .i64 x1])).run Try.prog w = .ok () (w.setRow g #[.int .i64 x0, .int .i64 x1]) :=
  run_storeR_row w (by kernel_rfl) rfl h
@[go_sem high] theorem alloc_23 (w : World) : (allocR 23).run Try.prog w = .ok (.pointer (some ⟨w.heap.size, 0, none⟩)) (w.alloc (.cells #[.int .i64 0, .int .i64 0] 23)) := by kernel_rfl
theorem ret_23 {fn : Func} {a : Act} {w : World} {R : Ending → World → Prop} {p : Tmp} {g : Nat} (h : fn.results = #[.cell p 23]) (hp : a.tmps.getD p undef = .pointer (some ⟨g, 0, none⟩)) (hrow : rowOk 2 (w.row g) = true) (hdf : a.defers = []) (hR : R (.returned (rowV (w.row g))) w) : bodyPost Try.prog fn R .ret a w :=
  ret_cell h hp Try.underlying23 rfl (by kernel_rfl) hrow hdf hR
theorem rett_23 {fn : Func} {a : Act} {w : World} {R : Ending → World → Prop} {p q : Tmp} {g : Nat} (h : fn.results = #[.cell p 23, .tmp q]) (hp : a.tmps.getD p undef = .pointer (some ⟨g, 0, none⟩)) (hrow : rowOk 2 (w.row g) = true) (hdf : a.defers = []) (hR : R (.returned (.tuple #[rowV (w.row g), a.tmps.getD q undef])) w) : bodyPost Try.prog fn R .ret a w :=
  ret_cell_tmp h hp Try.underlying23 rfl (by kernel_rfl) hrow hdf hR
set_option maxRecDepth 100000 in
theorem eq_23 (d : Nat) (w : World) (x0 : Int) (x1 : Int) (y0 : Int) (y1 : Int) : (Op.equalIn (d + 3) 23 (.agg #[.int .i64 x0, .int .i64 x1]) (.agg #[.int .i64 y0, .int .i64 y1])).run Try.prog w = .ok (x0 == y0 && (x1 == y1)) w := by
  rw [show d + 3 = (d + 2) + 1 from rfl, run_equalIn_agg w _ 23 _ _ (by kernel_rfl) (by kernel_rfl)]
  simp only [Program.fieldsOf, Try.underlying23]
  simp [go_sem]
  by_cases h0 : x0 = y0
  case neg => simp [h0]
  by_cases h1 : x1 = y1
  case neg => simp [h1, h0]
  simp [h0, h1]
@[go_sem high] theorem eq_23_10000 (w : World) (x0 : Int) (x1 : Int) (y0 : Int) (y1 : Int) : (Op.equalIn 10000 23 (.agg #[.int .i64 x0, .int .i64 x1]) (.agg #[.int .i64 y0, .int .i64 y1])).run Try.prog w = .ok (x0 == y0 && (x1 == y1)) w := eq_23 9997 w x0 x1 y0 y1
@[go_sem high] theorem eq_23_9999 (w : World) (x0 : Int) (x1 : Int) (y0 : Int) (y1 : Int) : (Op.equalIn 9999 23 (.agg #[.int .i64 x0, .int .i64 x1]) (.agg #[.int .i64 y0, .int .i64 y1])).run Try.prog w = .ok (x0 == y0 && (x1 == y1)) w := eq_23 9996 w x0 x1 y0 y1
@[go_sem high] theorem eq_23_9998 (w : World) (x0 : Int) (x1 : Int) (y0 : Int) (y1 : Int) : (Op.equalIn 9998 23 (.agg #[.int .i64 x0, .int .i64 x1]) (.agg #[.int .i64 y0, .int .i64 y1])).run Try.prog w = .ok (x0 == y0 && (x1 == y1)) w := eq_23 9995 w x0 x1 y0 y1

/-- api.Box -/
@[go_sem high] theorem load_25 (w : World) (g : Nat) (h : rowOk 6 (w.row g) = true) : (loadR 25 (.pointer (some ⟨g, 0, none⟩))).run Try.prog w = .ok (rowV (w.row g)) w :=
  run_loadR_row w Try.underlying25 rfl (by kernel_rfl) h
@[go_sem high] theorem store_25 (w : World) (g : Nat) (x0 : Int) (x1 : ByteArray) (x2 : Int) (x3 : Int) (x4 : Int) (x5 : Int) (h : rowOkW 6 (w.row g) = true) : (storeR 25 (.pointer (some ⟨g, 0, none⟩)) (.agg #[.int .i64 x0, .string x1, .int .i64 x2, .int .i64 x3, .int .i64 x4, .int .i64 x5])).run Try.prog w = .ok () (w.setRow g #[.int .i64 x0, .string x1, .int .i64 x2, .int .i64 x3, .int .i64 x4, .int .i64 x5]) :=
  run_storeR_row w (by kernel_rfl) rfl h
@[go_sem high] theorem alloc_25 (w : World) : (allocR 25).run Try.prog w = .ok (.pointer (some ⟨w.heap.size, 0, none⟩)) (w.alloc (.cells #[.int .i64 0, .string ⟨#[]⟩, .int .i64 0, .int .i64 0, .int .i64 0, .int .i64 0] 25)) := by kernel_rfl
theorem ret_25 {fn : Func} {a : Act} {w : World} {R : Ending → World → Prop} {p : Tmp} {g : Nat} (h : fn.results = #[.cell p 25]) (hp : a.tmps.getD p undef = .pointer (some ⟨g, 0, none⟩)) (hrow : rowOk 6 (w.row g) = true) (hdf : a.defers = []) (hR : R (.returned (rowV (w.row g))) w) : bodyPost Try.prog fn R .ret a w :=
  ret_cell h hp Try.underlying25 rfl (by kernel_rfl) hrow hdf hR
theorem rett_25 {fn : Func} {a : Act} {w : World} {R : Ending → World → Prop} {p q : Tmp} {g : Nat} (h : fn.results = #[.cell p 25, .tmp q]) (hp : a.tmps.getD p undef = .pointer (some ⟨g, 0, none⟩)) (hrow : rowOk 6 (w.row g) = true) (hdf : a.defers = []) (hR : R (.returned (.tuple #[rowV (w.row g), a.tmps.getD q undef])) w) : bodyPost Try.prog fn R .ret a w :=
  ret_cell_tmp h hp Try.underlying25 rfl (by kernel_rfl) hrow hdf hR
set_option maxRecDepth 100000 in
theorem eq_25 (d : Nat) (w : World) (x0 : Int) (x1 : ByteArray) (x2 : Int) (x3 : Int) (x4 : Int) (x5 : Int) (y0 : Int) (y1 : ByteArray) (y2 : Int) (y3 : Int) (y4 : Int) (y5 : Int) : (Op.equalIn (d + 3) 25 (.agg #[.int .i64 x0, .string x1, .int .i64 x2, .int .i64 x3, .int .i64 x4, .int .i64 x5]) (.agg #[.int .i64 y0, .string y1, .int .i64 y2, .int .i64 y3, .int .i64 y4, .int .i64 y5])).run Try.prog w = .ok (x0 == y0 && (x1.toList == y1.toList && (x2 == y2 && (x3 == y3 && (x4 == y4 && (x5 == y5)))))) w := by
  rw [show d + 3 = (d + 2) + 1 from rfl, run_equalIn_agg w _ 25 _ _ (by kernel_rfl) (by kernel_rfl)]
  simp only [Program.fieldsOf, Try.underlying25]
  simp [go_sem]
  by_cases h0 : x0 = y0
  case neg => simp [h0]
  by_cases h1 : x1.toList = y1.toList
  case neg => simp [h1, h0]
  by_cases h2 : x2 = y2
  case neg => simp [h2, h0, h1]
  by_cases h3 : x3 = y3
  case neg => simp [h3, h0, h1, h2]
  by_cases h4 : x4 = y4
  case neg => simp [h4, h0, h1, h2, h3]
  by_cases h5 : x5 = y5
  case neg => simp [h5, h0, h1, h2, h3, h4]
  simp [h0, h1, h2, h3, h4, h5]
@[go_sem high] theorem eq_25_10000 (w : World) (x0 : Int) (x1 : ByteArray) (x2 : Int) (x3 : Int) (x4 : Int) (x5 : Int) (y0 : Int) (y1 : ByteArray) (y2 : Int) (y3 : Int) (y4 : Int) (y5 : Int) : (Op.equalIn 10000 25 (.agg #[.int .i64 x0, .string x1, .int .i64 x2, .int .i64 x3, .int .i64 x4, .int .i64 x5]) (.agg #[.int .i64 y0, .string y1, .int .i64 y2, .int .i64 y3, .int .i64 y4, .int .i64 y5])).run Try.prog w = .ok (x0 == y0 && (x1.toList == y1.toList && (x2 == y2 && (x3 == y3 && (x4 == y4 && (x5 == y5)))))) w := eq_25 9997 w x0 x1 x2 x3 x4 x5 y0 y1 y2 y3 y4 y5
@[go_sem high] theorem eq_25_9999 (w : World) (x0 : Int) (x1 : ByteArray) (x2 : Int) (x3 : Int) (x4 : Int) (x5 : Int) (y0 : Int) (y1 : ByteArray) (y2 : Int) (y3 : Int) (y4 : Int) (y5 : Int) : (Op.equalIn 9999 25 (.agg #[.int .i64 x0, .string x1, .int .i64 x2, .int .i64 x3, .int .i64 x4, .int .i64 x5]) (.agg #[.int .i64 y0, .string y1, .int .i64 y2, .int .i64 y3, .int .i64 y4, .int .i64 y5])).run Try.prog w = .ok (x0 == y0 && (x1.toList == y1.toList && (x2 == y2 && (x3 == y3 && (x4 == y4 && (x5 == y5)))))) w := eq_25 9996 w x0 x1 x2 x3 x4 x5 y0 y1 y2 y3 y4 y5
@[go_sem high] theorem eq_25_9998 (w : World) (x0 : Int) (x1 : ByteArray) (x2 : Int) (x3 : Int) (x4 : Int) (x5 : Int) (y0 : Int) (y1 : ByteArray) (y2 : Int) (y3 : Int) (y4 : Int) (y5 : Int) : (Op.equalIn 9998 25 (.agg #[.int .i64 x0, .string x1, .int .i64 x2, .int .i64 x3, .int .i64 x4, .int .i64 x5]) (.agg #[.int .i64 y0, .string y1, .int .i64 y2, .int .i64 y3, .int .i64 y4, .int .i64 y5])).run Try.prog w = .ok (x0 == y0 && (x1.toList == y1.toList && (x2 == y2 && (x3 == y3 && (x4 == y4 && (x5 == y5)))))) w := eq_25 9995 w x0 x1 x2 x3 x4 x5 y0 y1 y2 y3 y4 y5

/-- [3]int -/
@[go_sem high] theorem load_29 (w : World) (g : Nat) (h : rowOk 3 (w.row g) = true) : (loadR 29 (.pointer (some ⟨g, 0, none⟩))).run Try.prog w = .ok (rowV (w.row g)) w :=
  run_loadR_row w Try.underlying29 rfl (by kernel_rfl) h
@[go_sem high] theorem store_29 (w : World) (g : Nat) (x0 : Int) (x1 : Int) (x2 : Int) (h : rowOkW 3 (w.row g) = true) : (storeR 29 (.pointer (some ⟨g, 0, none⟩)) (.agg #[.int .i64 x0, .int .i64 x1, .int .i64 x2])).run Try.prog w = .ok () (w.setRow g #[.int .i64 x0, .int .i64 x1, .int .i64 x2]) :=
  run_storeR_row w (by kernel_rfl) rfl h
@[go_sem high] theorem alloc_29 (w : World) : (allocR 29).run Try.prog w = .ok (.pointer (some ⟨w.heap.size, 0, none⟩)) (w.alloc (.cells #[.int .i64 0, .int .i64 0, .int .i64 0] 29)) := by kernel_rfl
theorem ret_29 {fn : Func} {a : Act} {w : World} {R : Ending → World → Prop} {p : Tmp} {g : Nat} (h : fn.results = #[.cell p 29]) (hp : a.tmps.getD p undef = .pointer (some ⟨g, 0, none⟩)) (hrow : rowOk 3 (w.row g) = true) (hdf : a.defers = []) (hR : R (.returned (rowV (w.row g))) w) : bodyPost Try.prog fn R .ret a w :=
  ret_cell h hp Try.underlying29 rfl (by kernel_rfl) hrow hdf hR
theorem rett_29 {fn : Func} {a : Act} {w : World} {R : Ending → World → Prop} {p q : Tmp} {g : Nat} (h : fn.results = #[.cell p 29, .tmp q]) (hp : a.tmps.getD p undef = .pointer (some ⟨g, 0, none⟩)) (hrow : rowOk 3 (w.row g) = true) (hdf : a.defers = []) (hR : R (.returned (.tuple #[rowV (w.row g), a.tmps.getD q undef])) w) : bodyPost Try.prog fn R .ret a w :=
  ret_cell_tmp h hp Try.underlying29 rfl (by kernel_rfl) hrow hdf hR
set_option maxRecDepth 100000 in
theorem eq_29 (d : Nat) (w : World) (x0 : Int) (x1 : Int) (x2 : Int) (y0 : Int) (y1 : Int) (y2 : Int) : (Op.equalIn (d + 2) 29 (.agg #[.int .i64 x0, .int .i64 x1, .int .i64 x2]) (.agg #[.int .i64 y0, .int .i64 y1, .int .i64 y2])).run Try.prog w = .ok (x0 == y0 && (x1 == y1 && (x2 == y2))) w := by
  rw [show d + 2 = (d + 1) + 1 from rfl, Op.equalIn]
  simp only [Sem.run_bind, run_underlying Try.underlying29, Result.andThen_ok]
  simp only [Std.Legacy.Range.forIn_eq_forIn_range', Std.Legacy.Range.size, Nat.sub_zero, Nat.add_sub_cancel, Nat.div_one, List.range'_succ, List.range'_zero, List.forIn_cons, List.forIn_nil]
  simp [go_sem]
  by_cases h0 : x0 = y0
  case neg => simp [h0]
  by_cases h1 : x1 = y1
  case neg => simp [h1, h0]
  by_cases h2 : x2 = y2
  case neg => simp [h2, h0, h1]
  simp [h0, h1, h2]
@[go_sem high] theorem eq_29_10000 (w : World) (x0 : Int) (x1 : Int) (x2 : Int) (y0 : Int) (y1 : Int) (y2 : Int) : (Op.equalIn 10000 29 (.agg #[.int .i64 x0, .int .i64 x1, .int .i64 x2]) (.agg #[.int .i64 y0, .int .i64 y1, .int .i64 y2])).run Try.prog w = .ok (x0 == y0 && (x1 == y1 && (x2 == y2))) w := eq_29 9998 w x0 x1 x2 y0 y1 y2
@[go_sem high] theorem eq_29_9999 (w : World) (x0 : Int) (x1 : Int) (x2 : Int) (y0 : Int) (y1 : Int) (y2 : Int) : (Op.equalIn 9999 29 (.agg #[.int .i64 x0, .int .i64 x1, .int .i64 x2]) (.agg #[.int .i64 y0, .int .i64 y1, .int .i64 y2])).run Try.prog w = .ok (x0 == y0 && (x1 == y1 && (x2 == y2))) w := eq_29 9997 w x0 x1 x2 y0 y1 y2
@[go_sem high] theorem eq_29_9998 (w : World) (x0 : Int) (x1 : Int) (x2 : Int) (y0 : Int) (y1 : Int) (y2 : Int) : (Op.equalIn 9998 29 (.agg #[.int .i64 x0, .int .i64 x1, .int .i64 x2]) (.agg #[.int .i64 y0, .int .i64 y1, .int .i64 y2])).run Try.prog w = .ok (x0 == y0 && (x1 == y1 && (x2 == y2))) w := eq_29 9996 w x0 x1 x2 y0 y1 y2

/-- api.Weight -/
@[go_sem high] theorem load_30 (w : World) (g : Nat) (h : rowOk 3 (w.row g) = true) : (loadR 30 (.pointer (some ⟨g, 0, none⟩))).run Try.prog w = .ok (rowV (w.row g)) w :=
  run_loadR_row w Try.underlying30 rfl (by kernel_rfl) h
@[go_sem high] theorem store_30 (w : World) (g : Nat) (x0 : Int) (x1 : Int) (x2 : Int) (h : rowOkW 3 (w.row g) = true) : (storeR 30 (.pointer (some ⟨g, 0, none⟩)) (.agg #[.int .i64 x0, .int .i64 x1, .int .i64 x2])).run Try.prog w = .ok () (w.setRow g #[.int .i64 x0, .int .i64 x1, .int .i64 x2]) :=
  run_storeR_row w (by kernel_rfl) rfl h
@[go_sem high] theorem alloc_30 (w : World) : (allocR 30).run Try.prog w = .ok (.pointer (some ⟨w.heap.size, 0, none⟩)) (w.alloc (.cells #[.int .i64 0, .int .i64 0, .int .i64 0] 30)) := by kernel_rfl
theorem ret_30 {fn : Func} {a : Act} {w : World} {R : Ending → World → Prop} {p : Tmp} {g : Nat} (h : fn.results = #[.cell p 30]) (hp : a.tmps.getD p undef = .pointer (some ⟨g, 0, none⟩)) (hrow : rowOk 3 (w.row g) = true) (hdf : a.defers = []) (hR : R (.returned (rowV (w.row g))) w) : bodyPost Try.prog fn R .ret a w :=
  ret_cell h hp Try.underlying30 rfl (by kernel_rfl) hrow hdf hR
theorem rett_30 {fn : Func} {a : Act} {w : World} {R : Ending → World → Prop} {p q : Tmp} {g : Nat} (h : fn.results = #[.cell p 30, .tmp q]) (hp : a.tmps.getD p undef = .pointer (some ⟨g, 0, none⟩)) (hrow : rowOk 3 (w.row g) = true) (hdf : a.defers = []) (hR : R (.returned (.tuple #[rowV (w.row g), a.tmps.getD q undef])) w) : bodyPost Try.prog fn R .ret a w :=
  ret_cell_tmp h hp Try.underlying30 rfl (by kernel_rfl) hrow hdf hR
set_option maxRecDepth 100000 in
theorem eq_30 (d : Nat) (w : World) (x0 : Int) (x1 : Int) (x2 : Int) (y0 : Int) (y1 : Int) (y2 : Int) : (Op.equalIn (d + 2) 30 (.agg #[.int .i64 x0, .int .i64 x1, .int .i64 x2]) (.agg #[.int .i64 y0, .int .i64 y1, .int .i64 y2])).run Try.prog w = .ok (x0 == y0 && (x1 == y1 && (x2 == y2))) w := by
  rw [show d + 2 = (d + 1) + 1 from rfl, Op.equalIn]
  simp only [Sem.run_bind, run_underlying Try.underlying30, Result.andThen_ok]
  simp only [Std.Legacy.Range.forIn_eq_forIn_range', Std.Legacy.Range.size, Nat.sub_zero, Nat.add_sub_cancel, Nat.div_one, List.range'_succ, List.range'_zero, List.forIn_cons, List.forIn_nil]
  simp [go_sem, eq_29]
  by_cases h0 : x0 = y0
  case neg => simp [h0]
  by_cases h1 : x1 = y1
  case neg => simp [h1, h0]
  by_cases h2 : x2 = y2
  case neg => simp [h2, h0, h1]
  simp [h0, h1, h2]
@[go_sem high] theorem eq_30_10000 (w : World) (x0 : Int) (x1 : Int) (x2 : Int) (y0 : Int) (y1 : Int) (y2 : Int) : (Op.equalIn 10000 30 (.agg #[.int .i64 x0, .int .i64 x1, .int .i64 x2]) (.agg #[.int .i64 y0, .int .i64 y1, .int .i64 y2])).run Try.prog w = .ok (x0 == y0 && (x1 == y1 && (x2 == y2))) w := eq_30 9998 w x0 x1 x2 y0 y1 y2
@[go_sem high] theorem eq_30_9999 (w : World) (x0 : Int) (x1 : Int) (x2 : Int) (y0 : Int) (y1 : Int) (y2 : Int) : (Op.equalIn 9999 30 (.agg #[.int .i64 x0, .int .i64 x1, .int .i64 x2]) (.agg #[.int .i64 y0, .int .i64 y1, .int .i64 y2])).run Try.prog w = .ok (x0 == y0 && (x1 == y1 && (x2 == y2))) w := eq_30 9997 w x0 x1 x2 y0 y1 y2
@[go_sem high] theorem eq_30_9998 (w : World) (x0 : Int) (x1 : Int) (x2 : Int) (y0 : Int) (y1 : Int) (y2 : Int) : (Op.equalIn 9998 30 (.agg #[.int .i64 x0, .int .i64 x1, .int .i64 x2]) (.agg #[.int .i64 y0, .int .i64 y1, .int .i64 y2])).run Try.prog w = .ok (x0 == y0 && (x1 == y1 && (x2 == y2))) w := eq_30 9996 w x0 x1 x2 y0 y1 y2

/-- api.Claim -/
@[go_sem high] theorem load_32 (w : World) (g : Nat) (h : rowOk 8 (w.row g) = true) : (loadR 32 (.pointer (some ⟨g, 0, none⟩))).run Try.prog w = .ok (rowV (w.row g)) w :=
  run_loadR_row w Try.underlying32 rfl (by kernel_rfl) h
@[go_sem high] theorem store_32 (w : World) (g : Nat) (x0 : ByteArray) (x1 : Int) (x2 : Bool) (x3 : Int) (x4 : Int) (x5 : Int) (x6 : Int) (x7 : Int) (h : rowOkW 8 (w.row g) = true) : (storeR 32 (.pointer (some ⟨g, 0, none⟩)) (.agg #[.string x0, .int .i64 x1, .bool x2, .int .i64 x3, .int .i64 x4, .int .i64 x5, .int .i64 x6, .int .i64 x7])).run Try.prog w = .ok () (w.setRow g #[.string x0, .int .i64 x1, .bool x2, .int .i64 x3, .int .i64 x4, .int .i64 x5, .int .i64 x6, .int .i64 x7]) :=
  run_storeR_row w (by kernel_rfl) rfl h
@[go_sem high] theorem alloc_32 (w : World) : (allocR 32).run Try.prog w = .ok (.pointer (some ⟨w.heap.size, 0, none⟩)) (w.alloc (.cells #[.string ⟨#[]⟩, .int .i64 0, .bool false, .int .i64 0, .int .i64 0, .int .i64 0, .int .i64 0, .int .i64 0] 32)) := by kernel_rfl
theorem ret_32 {fn : Func} {a : Act} {w : World} {R : Ending → World → Prop} {p : Tmp} {g : Nat} (h : fn.results = #[.cell p 32]) (hp : a.tmps.getD p undef = .pointer (some ⟨g, 0, none⟩)) (hrow : rowOk 8 (w.row g) = true) (hdf : a.defers = []) (hR : R (.returned (rowV (w.row g))) w) : bodyPost Try.prog fn R .ret a w :=
  ret_cell h hp Try.underlying32 rfl (by kernel_rfl) hrow hdf hR
theorem rett_32 {fn : Func} {a : Act} {w : World} {R : Ending → World → Prop} {p q : Tmp} {g : Nat} (h : fn.results = #[.cell p 32, .tmp q]) (hp : a.tmps.getD p undef = .pointer (some ⟨g, 0, none⟩)) (hrow : rowOk 8 (w.row g) = true) (hdf : a.defers = []) (hR : R (.returned (.tuple #[rowV (w.row g), a.tmps.getD q undef])) w) : bodyPost Try.prog fn R .ret a w :=
  ret_cell_tmp h hp Try.underlying32 rfl (by kernel_rfl) hrow hdf hR
set_option maxRecDepth 100000 in
theorem eq_32 (d : Nat) (w : World) (x0 : ByteArray) (x1 : Int) (x2 : Bool) (x3 : Int) (x4 : Int) (x5 : Int) (x6 : Int) (x7 : Int) (y0 : ByteArray) (y1 : Int) (y2 : Bool) (y3 : Int) (y4 : Int) (y5 : Int) (y6 : Int) (y7 : Int) : (Op.equalIn (d + 3) 32 (.agg #[.string x0, .int .i64 x1, .bool x2, .int .i64 x3, .int .i64 x4, .int .i64 x5, .int .i64 x6, .int .i64 x7]) (.agg #[.string y0, .int .i64 y1, .bool y2, .int .i64 y3, .int .i64 y4, .int .i64 y5, .int .i64 y6, .int .i64 y7])).run Try.prog w = .ok (x0.toList == y0.toList && (x1 == y1 && (x2 == y2 && (x3 == y3 && (x4 == y4 && (x5 == y5 && (x6 == y6 && (x7 == y7)))))))) w := by
  rw [show d + 3 = (d + 2) + 1 from rfl, run_equalIn_agg w _ 32 _ _ (by kernel_rfl) (by kernel_rfl)]
  simp only [Program.fieldsOf, Try.underlying32]
  simp [go_sem, eq_29, eq_30]
  by_cases h0 : x0.toList = y0.toList
  case neg => simp [h0]
  by_cases h1 : x1 = y1
  case neg => simp [h1, h0]
  by_cases h2 : x2 = y2
  case neg => simp [h2, h0, h1]
  by_cases h3 : x3 = y3
  case neg => simp [h3, h0, h1, h2]
  by_cases h4 : x4 = y4
  case neg => simp [h4, h0, h1, h2, h3]
  by_cases h5 : x5 = y5
  case neg => simp [h5, h0, h1, h2, h3, h4]
  by_cases h6 : x6 = y6
  case neg => simp [h6, h0, h1, h2, h3, h4, h5]
  by_cases h7 : x7 = y7
  case neg => simp [h7, h0, h1, h2, h3, h4, h5, h6]
  simp [h0, h1, h2, h3, h4, h5, h6, h7]
@[go_sem high] theorem eq_32_10000 (w : World) (x0 : ByteArray) (x1 : Int) (x2 : Bool) (x3 : Int) (x4 : Int) (x5 : Int) (x6 : Int) (x7 : Int) (y0 : ByteArray) (y1 : Int) (y2 : Bool) (y3 : Int) (y4 : Int) (y5 : Int) (y6 : Int) (y7 : Int) : (Op.equalIn 10000 32 (.agg #[.string x0, .int .i64 x1, .bool x2, .int .i64 x3, .int .i64 x4, .int .i64 x5, .int .i64 x6, .int .i64 x7]) (.agg #[.string y0, .int .i64 y1, .bool y2, .int .i64 y3, .int .i64 y4, .int .i64 y5, .int .i64 y6, .int .i64 y7])).run Try.prog w = .ok (x0.toList == y0.toList && (x1 == y1 && (x2 == y2 && (x3 == y3 && (x4 == y4 && (x5 == y5 && (x6 == y6 && (x7 == y7)))))))) w := eq_32 9997 w x0 x1 x2 x3 x4 x5 x6 x7 y0 y1 y2 y3 y4 y5 y6 y7
@[go_sem high] theorem eq_32_9999 (w : World) (x0 : ByteArray) (x1 : Int) (x2 : Bool) (x3 : Int) (x4 : Int) (x5 : Int) (x6 : Int) (x7 : Int) (y0 : ByteArray) (y1 : Int) (y2 : Bool) (y3 : Int) (y4 : Int) (y5 : Int) (y6 : Int) (y7 : Int) : (Op.equalIn 9999 32 (.agg #[.string x0, .int .i64 x1, .bool x2, .int .i64 x3, .int .i64 x4, .int .i64 x5, .int .i64 x6, .int .i64 x7]) (.agg #[.string y0, .int .i64 y1, .bool y2, .int .i64 y3, .int .i64 y4, .int .i64 y5, .int .i64 y6, .int .i64 y7])).run Try.prog w = .ok (x0.toList == y0.toList && (x1 == y1 && (x2 == y2 && (x3 == y3 && (x4 == y4 && (x5 == y5 && (x6 == y6 && (x7 == y7)))))))) w := eq_32 9996 w x0 x1 x2 x3 x4 x5 x6 x7 y0 y1 y2 y3 y4 y5 y6 y7
@[go_sem high] theorem eq_32_9998 (w : World) (x0 : ByteArray) (x1 : Int) (x2 : Bool) (x3 : Int) (x4 : Int) (x5 : Int) (x6 : Int) (x7 : Int) (y0 : ByteArray) (y1 : Int) (y2 : Bool) (y3 : Int) (y4 : Int) (y5 : Int) (y6 : Int) (y7 : Int) : (Op.equalIn 9998 32 (.agg #[.string x0, .int .i64 x1, .bool x2, .int .i64 x3, .int .i64 x4, .int .i64 x5, .int .i64 x6, .int .i64 x7]) (.agg #[.string y0, .int .i64 y1, .bool y2, .int .i64 y3, .int .i64 y4, .int .i64 y5, .int .i64 y6, .int .i64 y7])).run Try.prog w = .ok (x0.toList == y0.toList && (x1 == y1 && (x2 == y2 && (x3 == y3 && (x4 == y4 && (x5 == y5 && (x6 == y6 && (x7 == y7)))))))) w := eq_32 9995 w x0 x1 x2 x3 x4 x5 x6 x7 y0 y1 y2 y3 y4 y5 y6 y7

/-- api.Env -/
@[go_sem high] theorem load_37 (w : World) (g : Nat) (h : rowOk 13 (w.row g) = true) : (loadR 37 (.pointer (some ⟨g, 0, none⟩))).run Try.prog w = .ok (rowV (w.row g)) w :=
  run_loadR_row w Try.underlying37 rfl (by kernel_rfl) h
@[go_sem high] theorem store_37 (w : World) (g : Nat) (x0 : Bool) (x1 : Int) (x2 : Int) (x3 : Int) (x4 : Int) (x5 : Int) (x6 : Int) (x7 : Int) (x8 : Int) (x9 : ByteArray) (x10 : ByteArray) (x11 : ByteArray) (x12 : ByteArray) (h : rowOkW 13 (w.row g) = true) : (storeR 37 (.pointer (some ⟨g, 0, none⟩)) (.agg #[.bool x0, .int .i64 x1, .int .i64 x2, .int .i64 x3, .int .i64 x4, .int .i64 x5, .int .i64 x6, .int .i64 x7, .int .i64 x8, .string x9, .string x10, .string x11, .string x12])).run Try.prog w = .ok () (w.setRow g #[.bool x0, .int .i64 x1, .int .i64 x2, .int .i64 x3, .int .i64 x4, .int .i64 x5, .int .i64 x6, .int .i64 x7, .int .i64 x8, .string x9, .string x10, .string x11, .string x12]) :=
  run_storeR_row w (by kernel_rfl) rfl h
@[go_sem high] theorem alloc_37 (w : World) : (allocR 37).run Try.prog w = .ok (.pointer (some ⟨w.heap.size, 0, none⟩)) (w.alloc (.cells #[.bool false, .int .i64 0, .int .i64 0, .int .i64 0, .int .i64 0, .int .i64 0, .int .i64 0, .int .i64 0, .int .i64 0, .string ⟨#[]⟩, .string ⟨#[]⟩, .string ⟨#[]⟩, .string ⟨#[]⟩] 37)) := by kernel_rfl
theorem ret_37 {fn : Func} {a : Act} {w : World} {R : Ending → World → Prop} {p : Tmp} {g : Nat} (h : fn.results = #[.cell p 37]) (hp : a.tmps.getD p undef = .pointer (some ⟨g, 0, none⟩)) (hrow : rowOk 13 (w.row g) = true) (hdf : a.defers = []) (hR : R (.returned (rowV (w.row g))) w) : bodyPost Try.prog fn R .ret a w :=
  ret_cell h hp Try.underlying37 rfl (by kernel_rfl) hrow hdf hR
theorem rett_37 {fn : Func} {a : Act} {w : World} {R : Ending → World → Prop} {p q : Tmp} {g : Nat} (h : fn.results = #[.cell p 37, .tmp q]) (hp : a.tmps.getD p undef = .pointer (some ⟨g, 0, none⟩)) (hrow : rowOk 13 (w.row g) = true) (hdf : a.defers = []) (hR : R (.returned (.tuple #[rowV (w.row g), a.tmps.getD q undef])) w) : bodyPost Try.prog fn R .ret a w :=
  ret_cell_tmp h hp Try.underlying37 rfl (by kernel_rfl) hrow hdf hR
set_option maxRecDepth 100000 in
theorem eq_37 (d : Nat) (w : World) (x0 : Bool) (x1 : Int) (x2 : Int) (x3 : Int) (x4 : Int) (x5 : Int) (x6 : Int) (x7 : Int) (x8 : Int) (x9 : ByteArray) (x10 : ByteArray) (x11 : ByteArray) (x12 : ByteArray) (y0 : Bool) (y1 : Int) (y2 : Int) (y3 : Int) (y4 : Int) (y5 : Int) (y6 : Int) (y7 : Int) (y8 : Int) (y9 : ByteArray) (y10 : ByteArray) (y11 : ByteArray) (y12 : ByteArray) : (Op.equalIn (d + 3) 37 (.agg #[.bool x0, .int .i64 x1, .int .i64 x2, .int .i64 x3, .int .i64 x4, .int .i64 x5, .int .i64 x6, .int .i64 x7, .int .i64 x8, .string x9, .string x10, .string x11, .string x12]) (.agg #[.bool y0, .int .i64 y1, .int .i64 y2, .int .i64 y3, .int .i64 y4, .int .i64 y5, .int .i64 y6, .int .i64 y7, .int .i64 y8, .string y9, .string y10, .string y11, .string y12])).run Try.prog w = .ok (x0 == y0 && (x1 == y1 && (x2 == y2 && (x3 == y3 && (x4 == y4 && (x5 == y5 && (x6 == y6 && (x7 == y7 && (x8 == y8 && (x9.toList == y9.toList && (x10.toList == y10.toList && (x11.toList == y11.toList && (x12.toList == y12.toList))))))))))))) w := by
  rw [show d + 3 = (d + 2) + 1 from rfl, run_equalIn_agg w _ 37 _ _ (by kernel_rfl) (by kernel_rfl)]
  simp only [Program.fieldsOf, Try.underlying37]
  simp [go_sem, eq_29, eq_30]
  by_cases h0 : x0 = y0
  case neg => simp [h0]
  by_cases h1 : x1 = y1
  case neg => simp [h1, h0]
  by_cases h2 : x2 = y2
  case neg => simp [h2, h0, h1]
  by_cases h3 : x3 = y3
  case neg => simp [h3, h0, h1, h2]
  by_cases h4 : x4 = y4
  case neg => simp [h4, h0, h1, h2, h3]
  by_cases h5 : x5 = y5
  case neg => simp [h5, h0, h1, h2, h3, h4]
  by_cases h6 : x6 = y6
  case neg => simp [h6, h0, h1, h2, h3, h4, h5]
  by_cases h7 : x7 = y7
  case neg => simp [h7, h0, h1, h2, h3, h4, h5, h6]
  by_cases h8 : x8 = y8
  case neg => simp [h8, h0, h1, h2, h3, h4, h5, h6, h7]
  by_cases h9 : x9.toList = y9.toList
  case neg => simp [h9, h0, h1, h2, h3, h4, h5, h6, h7, h8]
  by_cases h10 : x10.toList = y10.toList
  case neg => simp [h10, h0, h1, h2, h3, h4, h5, h6, h7, h8, h9]
  by_cases h11 : x11.toList = y11.toList
  case neg => simp [h11, h0, h1, h2, h3, h4, h5, h6, h7, h8, h9, h10]
  by_cases h12 : x12.toList = y12.toList
  case neg => simp [h12, h0, h1, h2, h3, h4, h5, h6, h7, h8, h9, h10, h11]
  simp [h0, h1, h2, h3, h4, h5, h6, h7, h8, h9, h10, h11, h12]
@[go_sem high] theorem eq_37_10000 (w : World) (x0 : Bool) (x1 : Int) (x2 : Int) (x3 : Int) (x4 : Int) (x5 : Int) (x6 : Int) (x7 : Int) (x8 : Int) (x9 : ByteArray) (x10 : ByteArray) (x11 : ByteArray) (x12 : ByteArray) (y0 : Bool) (y1 : Int) (y2 : Int) (y3 : Int) (y4 : Int) (y5 : Int) (y6 : Int) (y7 : Int) (y8 : Int) (y9 : ByteArray) (y10 : ByteArray) (y11 : ByteArray) (y12 : ByteArray) : (Op.equalIn 10000 37 (.agg #[.bool x0, .int .i64 x1, .int .i64 x2, .int .i64 x3, .int .i64 x4, .int .i64 x5, .int .i64 x6, .int .i64 x7, .int .i64 x8, .string x9, .string x10, .string x11, .string x12]) (.agg #[.bool y0, .int .i64 y1, .int .i64 y2, .int .i64 y3, .int .i64 y4, .int .i64 y5, .int .i64 y6, .int .i64 y7, .int .i64 y8, .string y9, .string y10, .string y11, .string y12])).run Try.prog w = .ok (x0 == y0 && (x1 == y1 && (x2 == y2 && (x3 == y3 && (x4 == y4 && (x5 == y5 && (x6 == y6 && (x7 == y7 && (x8 == y8 && (x9.toList == y9.toList && (x10.toList == y10.toList && (x11.toList == y11.toList && (x12.toList == y12.toList))))))))))))) w := eq_37 9997 w x0 x1 x2 x3 x4 x5 x6 x7 x8 x9 x10 x11 x12 y0 y1 y2 y3 y4 y5 y6 y7 y8 y9 y10 y11 y12
@[go_sem high] theorem eq_37_9999 (w : World) (x0 : Bool) (x1 : Int) (x2 : Int) (x3 : Int) (x4 : Int) (x5 : Int) (x6 : Int) (x7 : Int) (x8 : Int) (x9 : ByteArray) (x10 : ByteArray) (x11 : ByteArray) (x12 : ByteArray) (y0 : Bool) (y1 : Int) (y2 : Int) (y3 : Int) (y4 : Int) (y5 : Int) (y6 : Int) (y7 : Int) (y8 : Int) (y9 : ByteArray) (y10 : ByteArray) (y11 : ByteArray) (y12 : ByteArray) : (Op.equalIn 9999 37 (.agg #[.bool x0, .int .i64 x1, .int .i64 x2, .int .i64 x3, .int .i64 x4, .int .i64 x5, .int .i64 x6, .int .i64 x7, .int .i64 x8, .string x9, .string x10, .string x11, .string x12]) (.agg #[.bool y0, .int .i64 y1, .int .i64 y2, .int .i64 y3, .int .i64 y4, .int .i64 y5, .int .i64 y6, .int .i64 y7, .int .i64 y8, .string y9, .string y10, .string y11, .string y12])).run Try.prog w = .ok (x0 == y0 && (x1 == y1 && (x2 == y2 && (x3 == y3 && (x4 == y4 && (x5 == y5 && (x6 == y6 && (x7 == y7 && (x8 == y8 && (x9.toList == y9.toList && (x10.toList == y10.toList && (x11.toList == y11.toList && (x12.toList == y12.toList))))))))))))) w := eq_37 9996 w x0 x1 x2 x3 x4 x5 x6 x7 x8 x9 x10 x11 x12 y0 y1 y2 y3 y4 y5 y6 y7 y8 y9 y10 y11 y12
@[go_sem high] theorem eq_37_9998 (w : World) (x0 : Bool) (x1 : Int) (x2 : Int) (x3 : Int) (x4 : Int) (x5 : Int) (x6 : Int) (x7 : Int) (x8 : Int) (x9 : ByteArray) (x10 : ByteArray) (x11 : ByteArray) (x12 : ByteArray) (y0 : Bool) (y1 : Int) (y2 : Int) (y3 : Int) (y4 : Int) (y5 : Int) (y6 : Int) (y7 : Int) (y8 : Int) (y9 : ByteArray) (y10 : ByteArray) (y11 : ByteArray) (y12 : ByteArray) : (Op.equalIn 9998 37 (.agg #[.bool x0, .int .i64 x1, .int .i64 x2, .int .i64 x3, .int .i64 x4, .int .i64 x5, .int .i64 x6, .int .i64 x7, .int .i64 x8, .string x9, .string x10, .string x11, .string x12]) (.agg #[.bool y0, .int .i64 y1, .int .i64 y2, .int .i64 y3, .int .i64 y4, .int .i64 y5, .int .i64 y6, .int .i64 y7, .int .i64 y8, .string y9, .string y10, .string y11, .string y12])).run Try.prog w = .ok (x0 == y0 && (x1 == y1 && (x2 == y2 && (x3 == y3 && (x4 == y4 && (x5 == y5 && (x6 == y6 && (x7 == y7 && (x8 == y8 && (x9.toList == y9.toList && (x10.toList == y10.toList && (x11.toList == y11.toList && (x12.toList == y12.toList))))))))))))) w := eq_37 9995 w x0 x1 x2 x3 x4 x5 x6 x7 x8 x9 x10 x11 x12 y0 y1 y2 y3 y4 y5 y6 y7 y8 y9 y10 y11 y12

/-- api.Ctx -/
@[go_sem high] theorem load_41 (w : World) (g : Nat) (h : rowOk 12 (w.row g) = true) : (loadR 41 (.pointer (some ⟨g, 0, none⟩))).run Try.prog w = .ok (rowV (w.row g)) w :=
  run_loadR_row w Try.underlying41 rfl (by kernel_rfl) h
@[go_sem high] theorem store_41 (w : World) (g : Nat) (x0 : Int) (x1 : Int) (x2 : Int) (x3 : Int) (x4 : Int) (x5 : Int) (x6 : Int) (x7 : Int) (x8 : Int) (x9 : Int) (x10 : Int) (x11 : Int) (h : rowOkW 12 (w.row g) = true) : (storeR 41 (.pointer (some ⟨g, 0, none⟩)) (.agg #[.int .i64 x0, .int .i64 x1, .int .i64 x2, .int .i64 x3, .int .i64 x4, .int .i64 x5, .int .i64 x6, .int .i64 x7, .int .i64 x8, .int .i64 x9, .int .i64 x10, .int .i64 x11])).run Try.prog w = .ok () (w.setRow g #[.int .i64 x0, .int .i64 x1, .int .i64 x2, .int .i64 x3, .int .i64 x4, .int .i64 x5, .int .i64 x6, .int .i64 x7, .int .i64 x8, .int .i64 x9, .int .i64 x10, .int .i64 x11]) :=
  run_storeR_row w (by kernel_rfl) rfl h
@[go_sem high] theorem alloc_41 (w : World) : (allocR 41).run Try.prog w = .ok (.pointer (some ⟨w.heap.size, 0, none⟩)) (w.alloc (.cells #[.int .i64 0, .int .i64 0, .int .i64 0, .int .i64 0, .int .i64 0, .int .i64 0, .int .i64 0, .int .i64 0, .int .i64 0, .int .i64 0, .int .i64 0, .int .i64 0] 41)) := by kernel_rfl
theorem ret_41 {fn : Func} {a : Act} {w : World} {R : Ending → World → Prop} {p : Tmp} {g : Nat} (h : fn.results = #[.cell p 41]) (hp : a.tmps.getD p undef = .pointer (some ⟨g, 0, none⟩)) (hrow : rowOk 12 (w.row g) = true) (hdf : a.defers = []) (hR : R (.returned (rowV (w.row g))) w) : bodyPost Try.prog fn R .ret a w :=
  ret_cell h hp Try.underlying41 rfl (by kernel_rfl) hrow hdf hR
theorem rett_41 {fn : Func} {a : Act} {w : World} {R : Ending → World → Prop} {p q : Tmp} {g : Nat} (h : fn.results = #[.cell p 41, .tmp q]) (hp : a.tmps.getD p undef = .pointer (some ⟨g, 0, none⟩)) (hrow : rowOk 12 (w.row g) = true) (hdf : a.defers = []) (hR : R (.returned (.tuple #[rowV (w.row g), a.tmps.getD q undef])) w) : bodyPost Try.prog fn R .ret a w :=
  ret_cell_tmp h hp Try.underlying41 rfl (by kernel_rfl) hrow hdf hR
set_option maxRecDepth 100000 in
theorem eq_41 (d : Nat) (w : World) (x0 : Int) (x1 : Int) (x2 : Int) (x3 : Int) (x4 : Int) (x5 : Int) (x6 : Int) (x7 : Int) (x8 : Int) (x9 : Int) (x10 : Int) (x11 : Int) (y0 : Int) (y1 : Int) (y2 : Int) (y3 : Int) (y4 : Int) (y5 : Int) (y6 : Int) (y7 : Int) (y8 : Int) (y9 : Int) (y10 : Int) (y11 : Int) : (Op.equalIn (d + 3) 41 (.agg #[.int .i64 x0, .int .i64 x1, .int .i64 x2, .int .i64 x3, .int .i64 x4, .int .i64 x5, .int .i64 x6, .int .i64 x7, .int .i64 x8, .int .i64 x9, .int .i64 x10, .int .i64 x11]) (.agg #[.int .i64 y0, .int .i64 y1, .int .i64 y2, .int .i64 y3, .int .i64 y4, .int .i64 y5, .int .i64 y6, .int .i64 y7, .int .i64 y8, .int .i64 y9, .int .i64 y10, .int .i64 y11])).run Try.prog w = .ok (x0 == y0 && (x1 == y1 && (x2 == y2 && (x3 == y3 && (x4 == y4 && (x5 == y5 && (x6 == y6 && (x7 == y7 && (x8 == y8 && (x9 == y9 && (x10 == y10 && (x11 == y11)))))))))))) w := by
  rw [show d + 3 = (d + 2) + 1 from rfl, run_equalIn_agg w _ 41 _ _ (by kernel_rfl) (by kernel_rfl)]
  simp only [Program.fieldsOf, Try.underlying41]
  simp [go_sem, eq_29, eq_30]
  by_cases h0 : x0 = y0
  case neg => simp [h0]
  by_cases h1 : x1 = y1
  case neg => simp [h1, h0]
  by_cases h2 : x2 = y2
  case neg => simp [h2, h0, h1]
  by_cases h3 : x3 = y3
  case neg => simp [h3, h0, h1, h2]
  by_cases h4 : x4 = y4
  case neg => simp [h4, h0, h1, h2, h3]
  by_cases h5 : x5 = y5
  case neg => simp [h5, h0, h1, h2, h3, h4]
  by_cases h6 : x6 = y6
  case neg => simp [h6, h0, h1, h2, h3, h4, h5]
  by_cases h7 : x7 = y7
  case neg => simp [h7, h0, h1, h2, h3, h4, h5, h6]
  by_cases h8 : x8 = y8
  case neg => simp [h8, h0, h1, h2, h3, h4, h5, h6, h7]
  by_cases h9 : x9 = y9
  case neg => simp [h9, h0, h1, h2, h3, h4, h5, h6, h7, h8]
  by_cases h10 : x10 = y10
  case neg => simp [h10, h0, h1, h2, h3, h4, h5, h6, h7, h8, h9]
  by_cases h11 : x11 = y11
  case neg => simp [h11, h0, h1, h2, h3, h4, h5, h6, h7, h8, h9, h10]
  simp [h0, h1, h2, h3, h4, h5, h6, h7, h8, h9, h10, h11]
@[go_sem high] theorem eq_41_10000 (w : World) (x0 : Int) (x1 : Int) (x2 : Int) (x3 : Int) (x4 : Int) (x5 : Int) (x6 : Int) (x7 : Int) (x8 : Int) (x9 : Int) (x10 : Int) (x11 : Int) (y0 : Int) (y1 : Int) (y2 : Int) (y3 : Int) (y4 : Int) (y5 : Int) (y6 : Int) (y7 : Int) (y8 : Int) (y9 : Int) (y10 : Int) (y11 : Int) : (Op.equalIn 10000 41 (.agg #[.int .i64 x0, .int .i64 x1, .int .i64 x2, .int .i64 x3, .int .i64 x4, .int .i64 x5, .int .i64 x6, .int .i64 x7, .int .i64 x8, .int .i64 x9, .int .i64 x10, .int .i64 x11]) (.agg #[.int .i64 y0, .int .i64 y1, .int .i64 y2, .int .i64 y3, .int .i64 y4, .int .i64 y5, .int .i64 y6, .int .i64 y7, .int .i64 y8, .int .i64 y9, .int .i64 y10, .int .i64 y11])).run Try.prog w = .ok (x0 == y0 && (x1 == y1 && (x2 == y2 && (x3 == y3 && (x4 == y4 && (x5 == y5 && (x6 == y6 && (x7 == y7 && (x8 == y8 && (x9 == y9 && (x10 == y10 && (x11 == y11)))))))))))) w := eq_41 9997 w x0 x1 x2 x3 x4 x5 x6 x7 x8 x9 x10 x11 y0 y1 y2 y3 y4 y5 y6 y7 y8 y9 y10 y11
@[go_sem high] theorem eq_41_9999 (w : World) (x0 : Int) (x1 : Int) (x2 : Int) (x3 : Int) (x4 : Int) (x5 : Int) (x6 : Int) (x7 : Int) (x8 : Int) (x9 : Int) (x10 : Int) (x11 : Int) (y0 : Int) (y1 : Int) (y2 : Int) (y3 : Int) (y4 : Int) (y5 : Int) (y6 : Int) (y7 : Int) (y8 : Int) (y9 : Int) (y10 : Int) (y11 : Int) : (Op.equalIn 9999 41 (.agg #[.int .i64 x0, .int .i64 x1, .int .i64 x2, .int .i64 x3, .int .i64 x4, .int .i64 x5, .int .i64 x6, .int .i64 x7, .int .i64 x8, .int .i64 x9, .int .i64 x10, .int .i64 x11]) (.agg #[.int .i64 y0, .int .i64 y1, .int .i64 y2, .int .i64 y3, .int .i64 y4, .int .i64 y5, .int .i64 y6, .int .i64 y7, .int .i64 y8, .int .i64 y9, .int .i64 y10, .int .i64 y11])).run Try.prog w = .ok (x0 == y0 && (x1 == y1 && (x2 == y2 && (x3 == y3 && (x4 == y4 && (x5 == y5 && (x6 == y6 && (x7 == y7 && (x8 == y8 && (x9 == y9 && (x10 == y10 && (x11 == y11)))))))))))) w := eq_41 9996 w x0 x1 x2 x3 x4 x5 x6 x7 x8 x9 x10 x11 y0 y1 y2 y3 y4 y5 y6 y7 y8 y9 y10 y11
@[go_sem high] theorem eq_41_9998 (w : World) (x0 : Int) (x1 : Int) (x2 : Int) (x3 : Int) (x4 : Int) (x5 : Int) (x6 : Int) (x7 : Int) (x8 : Int) (x9 : Int) (x10 : Int) (x11 : Int) (y0 : Int) (y1 : Int) (y2 : Int) (y3 : Int) (y4 : Int) (y5 : Int) (y6 : Int) (y7 : Int) (y8 : Int) (y9 : Int) (y10 : Int) (y11 : Int) : (Op.equalIn 9998 41 (.agg #[.int .i64 x0, .int .i64 x1, .int .i64 x2, .int .i64 x3, .int .i64 x4, .int .i64 x5, .int .i64 x6, .int .i64 x7, .int .i64 x8, .int .i64 x9, .int .i64 x10, .int .i64 x11]) (.agg #[.int .i64 y0, .int .i64 y1, .int .i64 y2, .int .i64 y3, .int .i64 y4, .int .i64 y5, .int .i64 y6, .int .i64 y7, .int .i64 y8, .int .i64 y9, .int .i64 y10, .int .i64 y11])).run Try.prog w = .ok (x0 == y0 && (x1 == y1 && (x2 == y2 && (x3 == y3 && (x4 == y4 && (x5 == y5 && (x6 == y6 && (x7 == y7 && (x8 == y8 && (x9 == y9 && (x10 == y10 && (x11 == y11)))))))))))) w := eq_41 9995 w x0 x1 x2 x3 x4 x5 x6 x7 x8 x9 x10 x11 y0 y1 y2 y3 y4 y5 y6 y7 y8 y9 y10 y11

/-- api.Op -/
@[go_sem high] theorem load_47 (w : World) (g : Nat) (h : rowOk 18 (w.row g) = true) : (loadR 47 (.pointer (some ⟨g, 0, none⟩))).run Try.prog w = .ok (rowV (w.row g)) w :=
  run_loadR_row w Try.underlying47 rfl (by kernel_rfl) h
@[go_sem high] theorem store_47 (w : World) (g : Nat) (x0 : Int) (x1 : Int) (x2 : Int) (x3 : Int) (x4 : ByteArray) (x5 : ByteArray) (x6p : Option Addr) (x6l x6c : Nat) (x7 : Int) (x8 : Int) (x9 : Int) (x10 : Int) (x11 : Int) (x12 : ByteArray) (x13 : Int) (x14 : Int) (x15 : Int) (x16 : Int) (x17 : Bool) (h : rowOkW 18 (w.row g) = true) : (storeR 47 (.pointer (some ⟨g, 0, none⟩)) (.agg #[.int .i64 x0, .int .i64 x1, .int .i64 x2, .int .i64 x3, .string x4, .string x5, .slice x6p x6l x6c, .int .i64 x7, .int .i64 x8, .int .i64 x9, .int .i64 x10, .int .i64 x11, .string x12, .int .i64 x13, .int .i64 x14, .int .i64 x15, .int .i64 x16, .bool x17])).run Try.prog w = .ok () (w.setRow g #[.int .i64 x0, .int .i64 x1, .int .i64 x2, .int .i64 x3, .string x4, .string x5, .slice x6p x6l x6c, .int .i64 x7, .int .i64 x8, .int .i64 x9, .int .i64 x10, .int .i64 x11, .string x12, .int .i64 x13, .int .i64 x14, .int .i64 x15, .int .i64 x16, .bool x17]) :=
  run_storeR_row w (by kernel_rfl) rfl h
@[go_sem high] theorem alloc_47 (w : World) : (allocR 47).run Try.prog w = .ok (.pointer (some ⟨w.heap.size, 0, none⟩)) (w.alloc (.cells #[.int .i64 0, .int .i64 0, .int .i64 0, .int .i64 0, .string ⟨#[]⟩, .string ⟨#[]⟩, .slice none 0 0, .int .i64 0, .int .i64 0, .int .i64 0, .int .i64 0, .int .i64 0, .string ⟨#[]⟩, .int .i64 0, .int .i64 0, .int .i64 0, .int .i64 0, .bool false] 47)) := by kernel_rfl
theorem ret_47 {fn : Func} {a : Act} {w : World} {R : Ending → World → Prop} {p : Tmp} {g : Nat} (h : fn.results = #[.cell p 47]) (hp : a.tmps.getD p undef = .pointer (some ⟨g, 0, none⟩)) (hrow : rowOk 18 (w.row g) = true) (hdf : a.defers = []) (hR : R (.returned (rowV (w.row g))) w) : bodyPost Try.prog fn R .ret a w :=
  ret_cell h hp Try.underlying47 rfl (by kernel_rfl) hrow hdf hR
theorem rett_47 {fn : Func} {a : Act} {w : World} {R : Ending → World → Prop} {p q : Tmp} {g : Nat} (h : fn.results = #[.cell p 47, .tmp q]) (hp : a.tmps.getD p undef = .pointer (some ⟨g, 0, none⟩)) (hrow : rowOk 18 (w.row g) = true) (hdf : a.defers = []) (hR : R (.returned (.tuple #[rowV (w.row g), a.tmps.getD q undef])) w) : bodyPost Try.prog fn R .ret a w :=
  ret_cell_tmp h hp Try.underlying47 rfl (by kernel_rfl) hrow hdf hR

/-- [6]int -/
@[go_sem high] theorem load_68 (w : World) (g : Nat) (h : rowOk 6 (w.row g) = true) : (loadR 68 (.pointer (some ⟨g, 0, none⟩))).run Try.prog w = .ok (rowV (w.row g)) w :=
  run_loadR_row w Try.underlying68 rfl (by kernel_rfl) h
@[go_sem high] theorem store_68 (w : World) (g : Nat) (x0 : Int) (x1 : Int) (x2 : Int) (x3 : Int) (x4 : Int) (x5 : Int) (h : rowOkW 6 (w.row g) = true) : (storeR 68 (.pointer (some ⟨g, 0, none⟩)) (.agg #[.int .i64 x0, .int .i64 x1, .int .i64 x2, .int .i64 x3, .int .i64 x4, .int .i64 x5])).run Try.prog w = .ok () (w.setRow g #[.int .i64 x0, .int .i64 x1, .int .i64 x2, .int .i64 x3, .int .i64 x4, .int .i64 x5]) :=
  run_storeR_row w (by kernel_rfl) rfl h
@[go_sem high] theorem alloc_68 (w : World) : (allocR 68).run Try.prog w = .ok (.pointer (some ⟨w.heap.size, 0, none⟩)) (w.alloc (.cells #[.int .i64 0, .int .i64 0, .int .i64 0, .int .i64 0, .int .i64 0, .int .i64 0] 68)) := by kernel_rfl
theorem ret_68 {fn : Func} {a : Act} {w : World} {R : Ending → World → Prop} {p : Tmp} {g : Nat} (h : fn.results = #[.cell p 68]) (hp : a.tmps.getD p undef = .pointer (some ⟨g, 0, none⟩)) (hrow : rowOk 6 (w.row g) = true) (hdf : a.defers = []) (hR : R (.returned (rowV (w.row g))) w) : bodyPost Try.prog fn R .ret a w :=
  ret_cell h hp Try.underlying68 rfl (by kernel_rfl) hrow hdf hR
theorem rett_68 {fn : Func} {a : Act} {w : World} {R : Ending → World → Prop} {p q : Tmp} {g : Nat} (h : fn.results = #[.cell p 68, .tmp q]) (hp : a.tmps.getD p undef = .pointer (some ⟨g, 0, none⟩)) (hrow : rowOk 6 (w.row g) = true) (hdf : a.defers = []) (hR : R (.returned (.tuple #[rowV (w.row g), a.tmps.getD q undef])) w) : bodyPost Try.prog fn R .ret a w :=
  ret_cell_tmp h hp Try.underlying68 rfl (by kernel_rfl) hrow hdf hR
set_option maxRecDepth 100000 in
theorem eq_68 (d : Nat) (w : World) (x0 : Int) (x1 : Int) (x2 : Int) (x3 : Int) (x4 : Int) (x5 : Int) (y0 : Int) (y1 : Int) (y2 : Int) (y3 : Int) (y4 : Int) (y5 : Int) : (Op.equalIn (d + 2) 68 (.agg #[.int .i64 x0, .int .i64 x1, .int .i64 x2, .int .i64 x3, .int .i64 x4, .int .i64 x5]) (.agg #[.int .i64 y0, .int .i64 y1, .int .i64 y2, .int .i64 y3, .int .i64 y4, .int .i64 y5])).run Try.prog w = .ok (x0 == y0 && (x1 == y1 && (x2 == y2 && (x3 == y3 && (x4 == y4 && (x5 == y5)))))) w := by
  rw [show d + 2 = (d + 1) + 1 from rfl, Op.equalIn]
  simp only [Sem.run_bind, run_underlying Try.underlying68, Result.andThen_ok]
  simp only [Std.Legacy.Range.forIn_eq_forIn_range', Std.Legacy.Range.size, Nat.sub_zero, Nat.add_sub_cancel, Nat.div_one, List.range'_succ, List.range'_zero, List.forIn_cons, List.forIn_nil]
  simp [go_sem, eq_29, eq_30]
  by_cases h0 : x0 = y0
  case neg => simp [h0]
  by_cases h1 : x1 = y1
  case neg => simp [h1, h0]
  by_cases h2 : x2 = y2
  case neg => simp [h2, h0, h1]
  by_cases h3 : x3 = y3
  case neg => simp [h3, h0, h1, h2]
  by_cases h4 : x4 = y4
  case neg => simp [h4, h0, h1, h2, h3]
  by_cases h5 : x5 = y5
  case neg => simp [h5, h0, h1, h2, h3, h4]
  simp [h0, h1, h2, h3, h4, h5]
@[go_sem high] theorem eq_68_10000 (w : World) (x0 : Int) (x1 : Int) (x2 : Int) (x3 : Int) (x4 : Int) (x5 : Int) (y0 : Int) (y1 : Int) (y2 : Int) (y3 : Int) (y4 : Int) (y5 : Int) : (Op.equalIn 10000 68 (.agg #[.int .i64 x0, .int .i64 x1, .int .i64 x2, .int .i64 x3, .int .i64 x4, .int .i64 x5]) (.agg #[.int .i64 y0, .int .i64 y1, .int .i64 y2, .int .i64 y3, .int .i64 y4, .int .i64 y5])).run Try.prog w = .ok (x0 == y0 && (x1 == y1 && (x2 == y2 && (x3 == y3 && (x4 == y4 && (x5 == y5)))))) w := eq_68 9998 w x0 x1 x2 x3 x4 x5 y0 y1 y2 y3 y4 y5
@[go_sem high] theorem eq_68_9999 (w : World) (x0 : Int) (x1 : Int) (x2 : Int) (x3 : Int) (x4 : Int) (x5 : Int) (y0 : Int) (y1 : Int) (y2 : Int) (y3 : Int) (y4 : Int) (y5 : Int) : (Op.equalIn 9999 68 (.agg #[.int .i64 x0, .int .i64 x1, .int .i64 x2, .int .i64 x3, .int .i64 x4, .int .i64 x5]) (.agg #[.int .i64 y0, .int .i64 y1, .int .i64 y2, .int .i64 y3, .int .i64 y4, .int .i64 y5])).run Try.prog w = .ok (x0 == y0 && (x1 == y1 && (x2 == y2 && (x3 == y3 && (x4 == y4 && (x5 == y5)))))) w := eq_68 9997 w x0 x1 x2 x3 x4 x5 y0 y1 y2 y3 y4 y5
@[go_sem high] theorem eq_68_9998 (w : World) (x0 : Int) (x1 : Int) (x2 : Int) (x3 : Int) (x4 : Int) (x5 : Int) (y0 : Int) (y1 : Int) (y2 : Int) (y3 : Int) (y4 : Int) (y5 : Int) : (Op.equalIn 9998 68 (.agg #[.int .i64 x0, .int .i64 x1, .int .i64 x2, .int .i64 x3, .int .i64 x4, .int .i64 x5]) (.agg #[.int .i64 y0, .int .i64 y1, .int .i64 y2, .int .i64 y3, .int .i64 y4, .int .i64 y5])).run Try.prog w = .ok (x0 == y0 && (x1 == y1 && (x2 == y2 && (x3 == y3 && (x4 == y4 && (x5 == y5)))))) w := eq_68 9996 w x0 x1 x2 x3 x4 x5 y0 y1 y2 y3 y4 y5

/-- [4]string -/
@[go_sem high] theorem load_70 (w : World) (g : Nat) (h : rowOk 4 (w.row g) = true) : (loadR 70 (.pointer (some ⟨g, 0, none⟩))).run Try.prog w = .ok (rowV (w.row g)) w :=
  run_loadR_row w Try.underlying70 rfl (by kernel_rfl) h
@[go_sem high] theorem store_70 (w : World) (g : Nat) (x0 : ByteArray) (x1 : ByteArray) (x2 : ByteArray) (x3 : ByteArray) (h : rowOkW 4 (w.row g) = true) : (storeR 70 (.pointer (some ⟨g, 0, none⟩)) (.agg #[.string x0, .string x1, .string x2, .string x3])).run Try.prog w = .ok () (w.setRow g #[.string x0, .string x1, .string x2, .string x3]) :=
  run_storeR_row w (by kernel_rfl) rfl h
@[go_sem high] theorem alloc_70 (w : World) : (allocR 70).run Try.prog w = .ok (.pointer (some ⟨w.heap.size, 0, none⟩)) (w.alloc (.cells #[.string ⟨#[]⟩, .string ⟨#[]⟩, .string ⟨#[]⟩, .string ⟨#[]⟩] 70)) := by kernel_rfl
theorem ret_70 {fn : Func} {a : Act} {w : World} {R : Ending → World → Prop} {p : Tmp} {g : Nat} (h : fn.results = #[.cell p 70]) (hp : a.tmps.getD p undef = .pointer (some ⟨g, 0, none⟩)) (hrow : rowOk 4 (w.row g) = true) (hdf : a.defers = []) (hR : R (.returned (rowV (w.row g))) w) : bodyPost Try.prog fn R .ret a w :=
  ret_cell h hp Try.underlying70 rfl (by kernel_rfl) hrow hdf hR
theorem rett_70 {fn : Func} {a : Act} {w : World} {R : Ending → World → Prop} {p q : Tmp} {g : Nat} (h : fn.results = #[.cell p 70, .tmp q]) (hp : a.tmps.getD p undef = .pointer (some ⟨g, 0, none⟩)) (hrow : rowOk 4 (w.row g) = true) (hdf : a.defers = []) (hR : R (.returned (.tuple #[rowV (w.row g), a.tmps.getD q undef])) w) : bodyPost Try.prog fn R .ret a w :=
  ret_cell_tmp h hp Try.underlying70 rfl (by kernel_rfl) hrow hdf hR
set_option maxRecDepth 100000 in
theorem eq_70 (d : Nat) (w : World) (x0 : ByteArray) (x1 : ByteArray) (x2 : ByteArray) (x3 : ByteArray) (y0 : ByteArray) (y1 : ByteArray) (y2 : ByteArray) (y3 : ByteArray) : (Op.equalIn (d + 2) 70 (.agg #[.string x0, .string x1, .string x2, .string x3]) (.agg #[.string y0, .string y1, .string y2, .string y3])).run Try.prog w = .ok (x0.toList == y0.toList && (x1.toList == y1.toList && (x2.toList == y2.toList && (x3.toList == y3.toList)))) w := by
  rw [show d + 2 = (d + 1) + 1 from rfl, Op.equalIn]
  simp only [Sem.run_bind, run_underlying Try.underlying70, Result.andThen_ok]
  simp only [Std.Legacy.Range.forIn_eq_forIn_range', Std.Legacy.Range.size, Nat.sub_zero, Nat.add_sub_cancel, Nat.div_one, List.range'_succ, List.range'_zero, List.forIn_cons, List.forIn_nil]
  simp [go_sem, eq_29, eq_30, eq_68]
  by_cases h0 : x0.toList = y0.toList
  case neg => simp [h0]
  by_cases h1 : x1.toList = y1.toList
  case neg => simp [h1, h0]
  by_cases h2 : x2.toList = y2.toList
  case neg => simp [h2, h0, h1]
  by_cases h3 : x3.toList = y3.toList
  case neg => simp [h3, h0, h1, h2]
  simp [h0, h1, h2, h3]
@[go_sem high] theorem eq_70_10000 (w : World) (x0 : ByteArray) (x1 : ByteArray) (x2 : ByteArray) (x3 : ByteArray) (y0 : ByteArray) (y1 : ByteArray) (y2 : ByteArray) (y3 : ByteArray) : (Op.equalIn 10000 70 (.agg #[.string x0, .string x1, .string x2, .string x3]) (.agg #[.string y0, .string y1, .string y2, .string y3])).run Try.prog w = .ok (x0.toList == y0.toList && (x1.toList == y1.toList && (x2.toList == y2.toList && (x3.toList == y3.toList)))) w := eq_70 9998 w x0 x1 x2 x3 y0 y1 y2 y3
@[go_sem high] theorem eq_70_9999 (w : World) (x0 : ByteArray) (x1 : ByteArray) (x2 : ByteArray) (x3 : ByteArray) (y0 : ByteArray) (y1 : ByteArray) (y2 : ByteArray) (y3 : ByteArray) : (Op.equalIn 9999 70 (.agg #[.string x0, .string x1, .string x2, .string x3]) (.agg #[.string y0, .string y1, .string y2, .string y3])).run Try.prog w = .ok (x0.toList == y0.toList && (x1.toList == y1.toList && (x2.toList == y2.toList && (x3.toList == y3.toList)))) w := eq_70 9997 w x0 x1 x2 x3 y0 y1 y2 y3
@[go_sem high] theorem eq_70_9998 (w : World) (x0 : ByteArray) (x1 : ByteArray) (x2 : ByteArray) (x3 : ByteArray) (y0 : ByteArray) (y1 : ByteArray) (y2 : ByteArray) (y3 : ByteArray) : (Op.equalIn 9998 70 (.agg #[.string x0, .string x1, .string x2, .string x3]) (.agg #[.string y0, .string y1, .string y2, .string y3])).run Try.prog w = .ok (x0.toList == y0.toList && (x1.toList == y1.toList && (x2.toList == y2.toList && (x3.toList == y3.toList)))) w := eq_70 9996 w x0 x1 x2 x3 y0 y1 y2 y3

/-- jalousieref1.W -/
@[go_sem high] theorem load_83 (w : World) (g : Nat) (h : rowOk 2 (w.row g) = true) : (loadR 83 (.pointer (some ⟨g, 0, none⟩))).run Try.prog w = .ok (rowV (w.row g)) w :=
  run_loadR_row w Try.underlying83 rfl (by kernel_rfl) h
@[go_sem high] theorem store_83 (w : World) (g : Nat) (x0 : Int) (x1 : Int) (h : rowOkW 2 (w.row g) = true) : (storeR 83 (.pointer (some ⟨g, 0, none⟩)) (.agg #[.int .u64 x0, .int .u64 x1])).run Try.prog w = .ok () (w.setRow g #[.int .u64 x0, .int .u64 x1]) :=
  run_storeR_row w (by kernel_rfl) rfl h
@[go_sem high] theorem alloc_83 (w : World) : (allocR 83).run Try.prog w = .ok (.pointer (some ⟨w.heap.size, 0, none⟩)) (w.alloc (.cells #[.int .u64 0, .int .u64 0] 83)) := by kernel_rfl
theorem ret_83 {fn : Func} {a : Act} {w : World} {R : Ending → World → Prop} {p : Tmp} {g : Nat} (h : fn.results = #[.cell p 83]) (hp : a.tmps.getD p undef = .pointer (some ⟨g, 0, none⟩)) (hrow : rowOk 2 (w.row g) = true) (hdf : a.defers = []) (hR : R (.returned (rowV (w.row g))) w) : bodyPost Try.prog fn R .ret a w :=
  ret_cell h hp Try.underlying83 rfl (by kernel_rfl) hrow hdf hR
theorem rett_83 {fn : Func} {a : Act} {w : World} {R : Ending → World → Prop} {p q : Tmp} {g : Nat} (h : fn.results = #[.cell p 83, .tmp q]) (hp : a.tmps.getD p undef = .pointer (some ⟨g, 0, none⟩)) (hrow : rowOk 2 (w.row g) = true) (hdf : a.defers = []) (hR : R (.returned (.tuple #[rowV (w.row g), a.tmps.getD q undef])) w) : bodyPost Try.prog fn R .ret a w :=
  ret_cell_tmp h hp Try.underlying83 rfl (by kernel_rfl) hrow hdf hR
set_option maxRecDepth 100000 in
theorem eq_83 (d : Nat) (w : World) (x0 : Int) (x1 : Int) (y0 : Int) (y1 : Int) : (Op.equalIn (d + 3) 83 (.agg #[.int .u64 x0, .int .u64 x1]) (.agg #[.int .u64 y0, .int .u64 y1])).run Try.prog w = .ok (x0 == y0 && (x1 == y1)) w := by
  rw [show d + 3 = (d + 2) + 1 from rfl, run_equalIn_agg w _ 83 _ _ (by kernel_rfl) (by kernel_rfl)]
  simp only [Program.fieldsOf, Try.underlying83]
  simp [go_sem, eq_29, eq_30, eq_68, eq_70]
  by_cases h0 : x0 = y0
  case neg => simp [h0]
  by_cases h1 : x1 = y1
  case neg => simp [h1, h0]
  simp [h0, h1]
@[go_sem high] theorem eq_83_10000 (w : World) (x0 : Int) (x1 : Int) (y0 : Int) (y1 : Int) : (Op.equalIn 10000 83 (.agg #[.int .u64 x0, .int .u64 x1]) (.agg #[.int .u64 y0, .int .u64 y1])).run Try.prog w = .ok (x0 == y0 && (x1 == y1)) w := eq_83 9997 w x0 x1 y0 y1
@[go_sem high] theorem eq_83_9999 (w : World) (x0 : Int) (x1 : Int) (y0 : Int) (y1 : Int) : (Op.equalIn 9999 83 (.agg #[.int .u64 x0, .int .u64 x1]) (.agg #[.int .u64 y0, .int .u64 y1])).run Try.prog w = .ok (x0 == y0 && (x1 == y1)) w := eq_83 9996 w x0 x1 y0 y1
@[go_sem high] theorem eq_83_9998 (w : World) (x0 : Int) (x1 : Int) (y0 : Int) (y1 : Int) : (Op.equalIn 9998 83 (.agg #[.int .u64 x0, .int .u64 x1]) (.agg #[.int .u64 y0, .int .u64 y1])).run Try.prog w = .ok (x0 == y0 && (x1 == y1)) w := eq_83 9995 w x0 x1 y0 y1

@[go_sem high] theorem build_23_z (w : World) : (buildR 23 []).run Try.prog w = .ok (.agg #[.int .i64 0, .int .i64 0]) w := run_buildR_of w (by kernel_rfl)
@[go_sem high] theorem build_23_0_1 (a0_0 : Int) (a1_0 : Int) (w : World) : (buildR 23 [(0, .int .i64 a0_0), (1, .int .i64 a1_0)]).run Try.prog w = .ok (.agg #[.int .i64 a0_0, .int .i64 a1_0]) w := run_buildR_of w (by kernel_rfl)
@[go_sem high] theorem build_23_1 (a1_0 : Int) (w : World) : (buildR 23 [(1, .int .i64 a1_0)]).run Try.prog w = .ok (.agg #[.int .i64 0, .int .i64 a1_0]) w := run_buildR_of w (by kernel_rfl)
@[go_sem high] theorem build_32_0 (a0_0 : ByteArray) (w : World) : (buildR 32 [(0, .string a0_0)]).run Try.prog w = .ok (.agg #[.string a0_0, .int .i64 0, .bool false, .int .i64 0, .int .i64 0, .int .i64 0, .int .i64 0, .int .i64 0]) w := run_buildR_of w (by kernel_rfl)
@[go_sem high] theorem build_37_z (w : World) : (buildR 37 []).run Try.prog w = .ok (.agg #[.bool false, .int .i64 0, .int .i64 0, .int .i64 0, .int .i64 0, .int .i64 0, .int .i64 0, .int .i64 0, .int .i64 0, .string ⟨#[]⟩, .string ⟨#[]⟩, .string ⟨#[]⟩, .string ⟨#[]⟩]) w := run_buildR_of w (by kernel_rfl)
@[go_sem high] theorem build_37_1_2_3_4_5_6_7_8 (a1_0 : Int) (a1_1 : Int) (a2_0 : Int) (a2_1 : Int) (a3_0 : Int) (a3_1 : Int) (a4_0 : Int) (a4_1 : Int) (a5_0 : ByteArray) (a6_0 : ByteArray) (a7_0 : ByteArray) (a8_0 : ByteArray) (w : World) : (buildR 37 [(1, .agg #[.int .i64 a1_0, .int .i64 a1_1]), (2, .agg #[.int .i64 a2_0, .int .i64 a2_1]), (3, .agg #[.int .i64 a3_0, .int .i64 a3_1]), (4, .agg #[.int .i64 a4_0, .int .i64 a4_1]), (5, .string a5_0), (6, .string a6_0), (7, .string a7_0), (8, .string a8_0)]).run Try.prog w = .ok (.agg #[.bool false, .int .i64 a1_0, .int .i64 a1_1, .int .i64 a2_0, .int .i64 a2_1, .int .i64 a3_0, .int .i64 a3_1, .int .i64 a4_0, .int .i64 a4_1, .string a5_0, .string a6_0, .string a7_0, .string a8_0]) w := run_buildR_of w (by kernel_rfl)
@[go_sem high] theorem build_41_z (w : World) : (buildR 41 []).run Try.prog w = .ok (.agg #[.int .i64 0, .int .i64 0, .int .i64 0, .int .i64 0, .int .i64 0, .int .i64 0, .int .i64 0, .int .i64 0, .int .i64 0, .int .i64 0, .int .i64 0, .int .i64 0]) w := run_buildR_of w (by kernel_rfl)
@[go_sem high] theorem build_41_0_1_2_3 (a0_0 : Int) (a0_1 : Int) (a1_0 : Int) (a1_1 : Int) (a2_0 : Int) (a2_1 : Int) (a3_0 : Int) (a3_1 : Int) (w : World) : (buildR 41 [(0, .agg #[.int .i64 a0_0, .int .i64 a0_1]), (1, .agg #[.int .i64 a1_0, .int .i64 a1_1]), (2, .agg #[.int .i64 a2_0, .int .i64 a2_1]), (3, .agg #[.int .i64 a3_0, .int .i64 a3_1])]).run Try.prog w = .ok (.agg #[.int .i64 a0_0, .int .i64 a0_1, .int .i64 a1_0, .int .i64 a1_1, .int .i64 a2_0, .int .i64 a2_1, .int .i64 a3_0, .int .i64 a3_1, .int .i64 0, .int .i64 0, .int .i64 0, .int .i64 0]) w := run_buildR_of w (by kernel_rfl)
@[go_sem high] theorem build_68_0_1_2_3_4_5 (a0_0 : Int) (a1_0 : Int) (a2_0 : Int) (a3_0 : Int) (a4_0 : Int) (a5_0 : Int) (w : World) : (buildR 68 [(0, .int .i64 a0_0), (1, .int .i64 a1_0), (2, .int .i64 a2_0), (3, .int .i64 a3_0), (4, .int .i64 a4_0), (5, .int .i64 a5_0)]).run Try.prog w = .ok (.agg #[.int .i64 a0_0, .int .i64 a1_0, .int .i64 a2_0, .int .i64 a3_0, .int .i64 a4_0, .int .i64 a5_0]) w := run_buildR_of w (by kernel_rfl)
@[go_sem high] theorem build_70_0_1_2_3 (a0_0 : ByteArray) (a1_0 : ByteArray) (a2_0 : ByteArray) (a3_0 : ByteArray) (w : World) : (buildR 70 [(0, .string a0_0), (1, .string a1_0), (2, .string a2_0), (3, .string a3_0)]).run Try.prog w = .ok (.agg #[.string a0_0, .string a1_0, .string a2_0, .string a3_0]) w := run_buildR_of w (by kernel_rfl)
@[go_sem high] theorem build_83_z (w : World) : (buildR 83 []).run Try.prog w = .ok (.agg #[.int .u64 0, .int .u64 0]) w := run_buildR_of w (by kernel_rfl)
@[go_sem high] theorem build_83_0_1 (a0_0 : Int) (a1_0 : Int) (w : World) : (buildR 83 [(0, .int .u64 a0_0), (1, .int .u64 a1_0)]).run Try.prog w = .ok (.agg #[.int .u64 a0_0, .int .u64 a1_0]) w := run_buildR_of w (by kernel_rfl)

end Go.Proofs.Ytkmpnkgelaaebaa

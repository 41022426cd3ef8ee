/- LAWS of this program's struct types: a whole row loaded, stored, built, compared. No condition. -/
import Derived.Test.YtajkfmnnokkcaaaProg
import Derived.Test.YtajkfmnnokkcaaaKit
import Derived.Test.YtajkfmnnokkcaaaExec
set_option linter.unusedSimpArgs false
set_option linter.unusedVariables false
namespace Go.Proofs.Ytajkfmnnokkcaaa
open Go.RowKit

/-- [3]int -/
@[go_sem high] theorem load_31 (w : World) (g : Nat) (h : rowOk 3 (w.row g) = true) : (loadR 31 (.pointer (some ⟨g, 0, none⟩))).run Try.prog w = .ok (rowV (w.row g)) w :=
  run_loadR_row w Try.underlying31 rfl (by kernel_rfl) h
@[go_sem high] theorem store_31 (w : World) (g : Nat) (x0 : Int) (x1 : Int) (x2 : Int) (h : rowOkW 3 (w.row g) = true) : (storeR 31 (.pointer (some ⟨g, 0, none⟩)) (.agg #[.int .i64 x0, .int .i64 x1, .int .i64 x2])).run Try.prog w = .ok () (w.setRow g #[.int .i64 x0, .int .i64 x1, .int .i64 x2]) :=
  run_storeR_row w (by kernel_rfl) rfl h
@[go_sem high] theorem alloc_31 (w : World) : (allocR 31).run Try.prog w = .ok (.pointer (some ⟨w.heap.size, 0, none⟩)) (w.alloc (.cells #[.int .i64 0, .int .i64 0, .int .i64 0] 31)) := by kernel_rfl
theorem ret_31 {fn : Func} {a : Act} {w : World} {R : Ending → World → Prop} {p : Tmp} {g : Nat} (h : fn.results = #[.cell p 31]) (hp : a.tmps.getD p undef = .pointer (some ⟨g, 0, none⟩)) (hrow : rowOk 3 (w.row g) = true) (hdf : a.defers = []) (hR : R (.returned (rowV (w.row g))) w) : bodyPost Try.prog fn R .ret a w :=
  ret_cell h hp Try.underlying31 rfl (by kernel_rfl) hrow hdf hR
theorem rett_31 {fn : Func} {a : Act} {w : World} {R : Ending → World → Prop} {p q : Tmp} {g : Nat} (h : fn.results = #[.cell p 31, .tmp q]) (hp : a.tmps.getD p undef = .pointer (some ⟨g, 0, none⟩)) (hrow : rowOk 3 (w.row g) = true) (hdf : a.defers = []) (hR : R (.returned (.tuple #[rowV (w.row g), a.tmps.getD q undef])) w) : bodyPost Try.prog fn R .ret a w :=
  ret_cell_tmp h hp Try.underlying31 rfl (by kernel_rfl) hrow hdf hR
set_option maxRecDepth 100000 in
theorem eq_31 (d : Nat) (w : World) (x0 : Int) (x1 : Int) (x2 : Int) (y0 : Int) (y1 : Int) (y2 : Int) : (Op.equalIn (d + 2) 31 (.agg #[.int .i64 x0, .int .i64 x1, .int .i64 x2]) (.agg #[.int .i64 y0, .int .i64 y1, .int .i64 y2])).run Try.prog w = .ok (x0 == y0 && (x1 == y1 && (x2 == y2))) w := by
  rw [show d + 2 = (d + 1) + 1 from rfl, Op.equalIn]
  simp only [Sem.run_bind, run_underlying Try.underlying31, Result.andThen_ok]
  simp only [Std.Legacy.Range.forIn_eq_forIn_range', Std.Legacy.Range.size, Nat.sub_zero, Nat.add_sub_cancel, Nat.div_one, List.range'_succ, List.range'_zero, List.forIn_cons, List.forIn_nil]
  simp [go_sem]
  by_cases h0 : x0 = y0
  case neg => simp [h0]
  by_cases h1 : x1 = y1
  case neg => simp [h1, h0]
  by_cases h2 : x2 = y2
  case neg => simp [h2, h0, h1]
  simp [h0, h1, h2]
@[go_sem high] theorem eq_31_10000 (w : World) (x0 : Int) (x1 : Int) (x2 : Int) (y0 : Int) (y1 : Int) (y2 : Int) : (Op.equalIn 10000 31 (.agg #[.int .i64 x0, .int .i64 x1, .int .i64 x2]) (.agg #[.int .i64 y0, .int .i64 y1, .int .i64 y2])).run Try.prog w = .ok (x0 == y0 && (x1 == y1 && (x2 == y2))) w := eq_31 9998 w x0 x1 x2 y0 y1 y2
@[go_sem high] theorem eq_31_9999 (w : World) (x0 : Int) (x1 : Int) (x2 : Int) (y0 : Int) (y1 : Int) (y2 : Int) : (Op.equalIn 9999 31 (.agg #[.int .i64 x0, .int .i64 x1, .int .i64 x2]) (.agg #[.int .i64 y0, .int .i64 y1, .int .i64 y2])).run Try.prog w = .ok (x0 == y0 && (x1 == y1 && (x2 == y2))) w := eq_31 9997 w x0 x1 x2 y0 y1 y2
@[go_sem high] theorem eq_31_9998 (w : World) (x0 : Int) (x1 : Int) (x2 : Int) (y0 : Int) (y1 : Int) (y2 : Int) : (Op.equalIn 9998 31 (.agg #[.int .i64 x0, .int .i64 x1, .int .i64 x2]) (.agg #[.int .i64 y0, .int .i64 y1, .int .i64 y2])).run Try.prog w = .ok (x0 == y0 && (x1 == y1 && (x2 == y2))) w := eq_31 9996 w x0 x1 x2 y0 y1 y2

/-- api.Weight -/
@[go_sem high] theorem load_32 (w : World) (g : Nat) (h : rowOk 3 (w.row g) = true) : (loadR 32 (.pointer (some ⟨g, 0, none⟩))).run Try.prog w = .ok (rowV (w.row g)) w :=
  run_loadR_row w Try.underlying32 rfl (by kernel_rfl) h
@[go_sem high] theorem store_32 (w : World) (g : Nat) (x0 : Int) (x1 : Int) (x2 : Int) (h : rowOkW 3 (w.row g) = true) : (storeR 32 (.pointer (some ⟨g, 0, none⟩)) (.agg #[.int .i64 x0, .int .i64 x1, .int .i64 x2])).run Try.prog w = .ok () (w.setRow g #[.int .i64 x0, .int .i64 x1, .int .i64 x2]) :=
  run_storeR_row w (by kernel_rfl) rfl h
@[go_sem high] theorem alloc_32 (w : World) : (allocR 32).run Try.prog w = .ok (.pointer (some ⟨w.heap.size, 0, none⟩)) (w.alloc (.cells #[.int .i64 0, .int .i64 0, .int .i64 0] 32)) := by kernel_rfl
theorem ret_32 {fn : Func} {a : Act} {w : World} {R : Ending → World → Prop} {p : Tmp} {g : Nat} (h : fn.results = #[.cell p 32]) (hp : a.tmps.getD p undef = .pointer (some ⟨g, 0, none⟩)) (hrow : rowOk 3 (w.row g) = true) (hdf : a.defers = []) (hR : R (.returned (rowV (w.row g))) w) : bodyPost Try.prog fn R .ret a w :=
  ret_cell h hp Try.underlying32 rfl (by kernel_rfl) hrow hdf hR
theorem rett_32 {fn : Func} {a : Act} {w : World} {R : Ending → World → Prop} {p q : Tmp} {g : Nat} (h : fn.results = #[.cell p 32, .tmp q]) (hp : a.tmps.getD p undef = .pointer (some ⟨g, 0, none⟩)) (hrow : rowOk 3 (w.row g) = true) (hdf : a.defers = []) (hR : R (.returned (.tuple #[rowV (w.row g), a.tmps.getD q undef])) w) : bodyPost Try.prog fn R .ret a w :=
  ret_cell_tmp h hp Try.underlying32 rfl (by kernel_rfl) hrow hdf hR
set_option maxRecDepth 100000 in
theorem eq_32 (d : Nat) (w : World) (x0 : Int) (x1 : Int) (x2 : Int) (y0 : Int) (y1 : Int) (y2 : Int) : (Op.equalIn (d + 2) 32 (.agg #[.int .i64 x0, .int .i64 x1, .int .i64 x2]) (.agg #[.int .i64 y0, .int .i64 y1, .int .i64 y2])).run Try.prog w = .ok (x0 == y0 && (x1 == y1 && (x2 == y2))) w := by
  rw [show d + 2 = (d + 1) + 1 from rfl, Op.equalIn]
  simp only [Sem.run_bind, run_underlying Try.underlying32, Result.andThen_ok]
  simp only [Std.Legacy.Range.forIn_eq_forIn_range', Std.Legacy.Range.size, Nat.sub_zero, Nat.add_sub_cancel, Nat.div_one, List.range'_succ, List.range'_zero, List.forIn_cons, List.forIn_nil]
  simp [go_sem, eq_31]
  by_cases h0 : x0 = y0
  case neg => simp [h0]
  by_cases h1 : x1 = y1
  case neg => simp [h1, h0]
  by_cases h2 : x2 = y2
  case neg => simp [h2, h0, h1]
  simp [h0, h1, h2]
@[go_sem high] theorem eq_32_10000 (w : World) (x0 : Int) (x1 : Int) (x2 : Int) (y0 : Int) (y1 : Int) (y2 : Int) : (Op.equalIn 10000 32 (.agg #[.int .i64 x0, .int .i64 x1, .int .i64 x2]) (.agg #[.int .i64 y0, .int .i64 y1, .int .i64 y2])).run Try.prog w = .ok (x0 == y0 && (x1 == y1 && (x2 == y2))) w := eq_32 9998 w x0 x1 x2 y0 y1 y2
@[go_sem high] theorem eq_32_9999 (w : World) (x0 : Int) (x1 : Int) (x2 : Int) (y0 : Int) (y1 : Int) (y2 : Int) : (Op.equalIn 9999 32 (.agg #[.int .i64 x0, .int .i64 x1, .int .i64 x2]) (.agg #[.int .i64 y0, .int .i64 y1, .int .i64 y2])).run Try.prog w = .ok (x0 == y0 && (x1 == y1 && (x2 == y2))) w := eq_32 9997 w x0 x1 x2 y0 y1 y2
@[go_sem high] theorem eq_32_9998 (w : World) (x0 : Int) (x1 : Int) (x2 : Int) (y0 : Int) (y1 : Int) (y2 : Int) : (Op.equalIn 9998 32 (.agg #[.int .i64 x0, .int .i64 x1, .int .i64 x2]) (.agg #[.int .i64 y0, .int .i64 y1, .int .i64 y2])).run Try.prog w = .ok (x0 == y0 && (x1 == y1 && (x2 == y2))) w := eq_32 9996 w x0 x1 x2 y0 y1 y2

/-- api.Claim -/
@[go_sem high] theorem load_34 (w : World) (g : Nat) (h : rowOk 8 (w.row g) = true) : (loadR 34 (.pointer (some ⟨g, 0, none⟩))).run Try.prog w = .ok (rowV (w.row g)) w :=
  run_loadR_row w Try.underlying34 rfl (by kernel_rfl) h
@[go_sem high] theorem store_34 (w : World) (g : Nat) (x0 : ByteArray) (x1 : Int) (x2 : Bool) (x3 : Int) (x4 : Int) (x5 : Int) (x6 : Int) (x7 : Int) (h : rowOkW 8 (w.row g) = true) : (storeR 34 (.pointer (some ⟨g, 0, none⟩)) (.agg #[.string x0, .int .i64 x1, .bool x2, .int .i64 x3, .int .i64 x4, .int .i64 x5, .int .i64 x6, .int .i64 x7])).run Try.prog w = .ok () (w.setRow g #[.string x0, .int .i64 x1, .bool x2, .int .i64 x3, .int .i64 x4, .int .i64 x5, .int .i64 x6, .int .i64 x7]) :=
  run_storeR_row w (by kernel_rfl) rfl h
@[go_sem high] theorem alloc_34 (w : World) : (allocR 34).run Try.prog w = .ok (.pointer (some ⟨w.heap.size, 0, none⟩)) (w.alloc (.cells #[.string ⟨#[]⟩, .int .i64 0, .bool false, .int .i64 0, .int .i64 0, .int .i64 0, .int .i64 0, .int .i64 0] 34)) := by kernel_rfl
theorem ret_34 {fn : Func} {a : Act} {w : World} {R : Ending → World → Prop} {p : Tmp} {g : Nat} (h : fn.results = #[.cell p 34]) (hp : a.tmps.getD p undef = .pointer (some ⟨g, 0, none⟩)) (hrow : rowOk 8 (w.row g) = true) (hdf : a.defers = []) (hR : R (.returned (rowV (w.row g))) w) : bodyPost Try.prog fn R .ret a w :=
  ret_cell h hp Try.underlying34 rfl (by kernel_rfl) hrow hdf hR
theorem rett_34 {fn : Func} {a : Act} {w : World} {R : Ending → World → Prop} {p q : Tmp} {g : Nat} (h : fn.results = #[.cell p 34, .tmp q]) (hp : a.tmps.getD p undef = .pointer (some ⟨g, 0, none⟩)) (hrow : rowOk 8 (w.row g) = true) (hdf : a.defers = []) (hR : R (.returned (.tuple #[rowV (w.row g), a.tmps.getD q undef])) w) : bodyPost Try.prog fn R .ret a w :=
  ret_cell_tmp h hp Try.underlying34 rfl (by kernel_rfl) hrow hdf hR
set_option maxRecDepth 100000 in
theorem eq_34 (d : Nat) (w : World) (x0 : ByteArray) (x1 : Int) (x2 : Bool) (x3 : Int) (x4 : Int) (x5 : Int) (x6 : Int) (x7 : Int) (y0 : ByteArray) (y1 : Int) (y2 : Bool) (y3 : Int) (y4 : Int) (y5 : Int) (y6 : Int) (y7 : Int) : (Op.equalIn (d + 3) 34 (.agg #[.string x0, .int .i64 x1, .bool x2, .int .i64 x3, .int .i64 x4, .int .i64 x5, .int .i64 x6, .int .i64 x7]) (.agg #[.string y0, .int .i64 y1, .bool y2, .int .i64 y3, .int .i64 y4, .int .i64 y5, .int .i64 y6, .int .i64 y7])).run Try.prog w = .ok (x0.toList == y0.toList && (x1 == y1 && (x2 == y2 && (x3 == y3 && (x4 == y4 && (x5 == y5 && (x6 == y6 && (x7 == y7)))))))) w := by
  rw [show d + 3 = (d + 2) + 1 from rfl, run_equalIn_agg w _ 34 _ _ (by kernel_rfl) (by kernel_rfl)]
  simp only [Program.fieldsOf, Try.underlying34]
  simp [go_sem, eq_31, eq_32]
  by_cases h0 : x0.toList = y0.toList
  case neg => simp [h0]
  by_cases h1 : x1 = y1
  case neg => simp [h1, h0]
  by_cases h2 : x2 = y2
  case neg => simp [h2, h0, h1]
  by_cases h3 : x3 = y3
  case neg => simp [h3, h0, h1, h2]
  by_cases h4 : x4 = y4
  case neg => simp [h4, h0, h1, h2, h3]
  by_cases h5 : x5 = y5
  case neg => simp [h5, h0, h1, h2, h3, h4]
  by_cases h6 : x6 = y6
  case neg => simp [h6, h0, h1, h2, h3, h4, h5]
  by_cases h7 : x7 = y7
  case neg => simp [h7, h0, h1, h2, h3, h4, h5, h6]
  simp [h0, h1, h2, h3, h4, h5, h6, h7]
@[go_sem high] theorem eq_34_10000 (w : World) (x0 : ByteArray) (x1 : Int) (x2 : Bool) (x3 : Int) (x4 : Int) (x5 : Int) (x6 : Int) (x7 : Int) (y0 : ByteArray) (y1 : Int) (y2 : Bool) (y3 : Int) (y4 : Int) (y5 : Int) (y6 : Int) (y7 : Int) : (Op.equalIn 10000 34 (.agg #[.string x0, .int .i64 x1, .bool x2, .int .i64 x3, .int .i64 x4, .int .i64 x5, .int .i64 x6, .int .i64 x7]) (.agg #[.string y0, .int .i64 y1, .bool y2, .int .i64 y3, .int .i64 y4, .int .i64 y5, .int .i64 y6, .int .i64 y7])).run Try.prog w = .ok (x0.toList == y0.toList && (x1 == y1 && (x2 == y2 && (x3 == y3 && (x4 == y4 && (x5 == y5 && (x6 == y6 && (x7 == y7)))))))) w := eq_34 9997 w x0 x1 x2 x3 x4 x5 x6 x7 y0 y1 y2 y3 y4 y5 y6 y7
@[go_sem high] theorem eq_34_9999 (w : World) (x0 : ByteArray) (x1 : Int) (x2 : Bool) (x3 : Int) (x4 : Int) (x5 : Int) (x6 : Int) (x7 : Int) (y0 : ByteArray) (y1 : Int) (y2 : Bool) (y3 : Int) (y4 : Int) (y5 : Int) (y6 : Int) (y7 : Int) : (Op.equalIn 9999 34 (.agg #[.string x0, .int .i64 x1, .bool x2, .int .i64 x3, .int .i64 x4, .int .i64 x5, .int .i64 x6, .int .i64 x7]) (.agg #[.string y0, .int .i64 y1, .bool y2, .int .i64 y3, .int .i64 y4, .int .i64 y5, .int .i64 y6, .int .i64 y7])).run Try.prog w = .ok (x0.toList == y0.toList && (x1 == y1 && (x2 == y2 && (x3 == y3 && (x4 == y4 && (x5 == y5 && (x6 == y6 && (x7 == y7)))))))) w := eq_34 9996 w x0 x1 x2 x3 x4 x5 x6 x7 y0 y1 y2 y3 y4 y5 y6 y7
@[go_sem high] theorem eq_34_9998 (w : World) (x0 : ByteArray) (x1 : Int) (x2 : Bool) (x3 : Int) (x4 : Int) (x5 : Int) (x6 : Int) (x7 : Int) (y0 : ByteArray) (y1 : Int) (y2 : Bool) (y3 : Int) (y4 : Int) (y5 : Int) (y6 : Int) (y7 : Int) : (Op.equalIn 9998 34 (.agg #[.string x0, .int .i64 x1, .bool x2, .int .i64 x3, .int .i64 x4, .int .i64 x5, .int .i64 x6, .int .i64 x7]) (.agg #[.string y0, .int .i64 y1, .bool y2, .int .i64 y3, .int .i64 y4, .int .i64 y5, .int .i64 y6, .int .i64 y7])).run Try.prog w = .ok (x0.toList == y0.toList && (x1 == y1 && (x2 == y2 && (x3 == y3 && (x4 == y4 && (x5 == y5 && (x6 == y6 && (x7 == y7)))))))) w := eq_34 9995 w x0 x1 x2 x3 x4 x5 x6 x7 y0 y1 y2 y3 y4 y5 y6 y7

/-- [6]int -/
@[go_sem high] theorem load_52 (w : World) (g : Nat) (h : rowOk 6 (w.row g) = true) : (loadR 52 (.pointer (some ⟨g, 0, none⟩))).run Try.prog w = .ok (rowV (w.row g)) w :=
  run_loadR_row w Try.underlying52 rfl (by kernel_rfl) h
@[go_sem high] theorem store_52 (w : World) (g : Nat) (x0 : Int) (x1 : Int) (x2 : Int) (x3 : Int) (x4 : Int) (x5 : Int) (h : rowOkW 6 (w.row g) = true) : (storeR 52 (.pointer (some ⟨g, 0, none⟩)) (.agg #[.int .i64 x0, .int .i64 x1, .int .i64 x2, .int .i64 x3, .int .i64 x4, .int .i64 x5])).run Try.prog w = .ok () (w.setRow g #[.int .i64 x0, .int .i64 x1, .int .i64 x2, .int .i64 x3, .int .i64 x4, .int .i64 x5]) :=
  run_storeR_row w (by kernel_rfl) rfl h
@[go_sem high] theorem alloc_52 (w : World) : (allocR 52).run Try.prog w = .ok (.pointer (some ⟨w.heap.size, 0, none⟩)) (w.alloc (.cells #[.int .i64 0, .int .i64 0, .int .i64 0, .int .i64 0, .int .i64 0, .int .i64 0] 52)) := by kernel_rfl
theorem ret_52 {fn : Func} {a : Act} {w : World} {R : Ending → World → Prop} {p : Tmp} {g : Nat} (h : fn.results = #[.cell p 52]) (hp : a.tmps.getD p undef = .pointer (some ⟨g, 0, none⟩)) (hrow : rowOk 6 (w.row g) = true) (hdf : a.defers = []) (hR : R (.returned (rowV (w.row g))) w) : bodyPost Try.prog fn R .ret a w :=
  ret_cell h hp Try.underlying52 rfl (by kernel_rfl) hrow hdf hR
theorem rett_52 {fn : Func} {a : Act} {w : World} {R : Ending → World → Prop} {p q : Tmp} {g : Nat} (h : fn.results = #[.cell p 52, .tmp q]) (hp : a.tmps.getD p undef = .pointer (some ⟨g, 0, none⟩)) (hrow : rowOk 6 (w.row g) = true) (hdf : a.defers = []) (hR : R (.returned (.tuple #[rowV (w.row g), a.tmps.getD q undef])) w) : bodyPost Try.prog fn R .ret a w :=
  ret_cell_tmp h hp Try.underlying52 rfl (by kernel_rfl) hrow hdf hR
set_option maxRecDepth 100000 in
theorem eq_52 (d : Nat) (w : World) (x0 : Int) (x1 : Int) (x2 : Int) (x3 : Int) (x4 : Int) (x5 : Int) (y0 : Int) (y1 : Int) (y2 : Int) (y3 : Int) (y4 : Int) (y5 : Int) : (Op.equalIn (d + 2) 52 (.agg #[.int .i64 x0, .int .i64 x1, .int .i64 x2, .int .i64 x3, .int .i64 x4, .int .i64 x5]) (.agg #[.int .i64 y0, .int .i64 y1, .int .i64 y2, .int .i64 y3, .int .i64 y4, .int .i64 y5])).run Try.prog w = .ok (x0 == y0 && (x1 == y1 && (x2 == y2 && (x3 == y3 && (x4 == y4 && (x5 == y5)))))) w := by
  rw [show d + 2 = (d + 1) + 1 from rfl, Op.equalIn]
  simp only [Sem.run_bind, run_underlying Try.underlying52, Result.andThen_ok]
  simp only [Std.Legacy.Range.forIn_eq_forIn_range', Std.Legacy.Range.size, Nat.sub_zero, Nat.add_sub_cancel, Nat.div_one, List.range'_succ, List.range'_zero, List.forIn_cons, List.forIn_nil]
  simp [go_sem, eq_31, eq_32]
  by_cases h0 : x0 = y0
  case neg => simp [h0]
  by_cases h1 : x1 = y1
  case neg => simp [h1, h0]
  by_cases h2 : x2 = y2
  case neg => simp [h2, h0, h1]
  by_cases h3 : x3 = y3
  case neg => simp [h3, h0, h1, h2]
  by_cases h4 : x4 = y4
  case neg => simp [h4, h0, h1, h2, h3]
  by_cases h5 : x5 = y5
  case neg => simp [h5, h0, h1, h2, h3, h4]
  simp [h0, h1, h2, h3, h4, h5]
@[go_sem high] theorem eq_52_10000 (w : World) (x0 : Int) (x1 : Int) (x2 : Int) (x3 : Int) (x4 : Int) (x5 : Int) (y0 : Int) (y1 : Int) (y2 : Int) (y3 : Int) (y4 : Int) (y5 : Int) : (Op.equalIn 10000 52 (.agg #[.int .i64 x0, .int .i64 x1, .int .i64 x2, .int .i64 x3, .int .i64 x4, .int .i64 x5]) (.agg #[.int .i64 y0, .int .i64 y1, .int .i64 y2, .int .i64 y3, .int .i64 y4, .int .i64 y5])).run Try.prog w = .ok (x0 == y0 && (x1 == y1 && (x2 == y2 && (x3 == y3 && (x4 == y4 && (x5 == y5)))))) w := eq_52 9998 w x0 x1 x2 x3 x4 x5 y0 y1 y2 y3 y4 y5
@[go_sem high] theorem eq_52_9999 (w : World) (x0 : Int) (x1 : Int) (x2 : Int) (x3 : Int) (x4 : Int) (x5 : Int) (y0 : Int) (y1 : Int) (y2 : Int) (y3 : Int) (y4 : Int) (y5 : Int) : (Op.equalIn 9999 52 (.agg #[.int .i64 x0, .int .i64 x1, .int .i64 x2, .int .i64 x3, .int .i64 x4, .int .i64 x5]) (.agg #[.int .i64 y0, .int .i64 y1, .int .i64 y2, .int .i64 y3, .int .i64 y4, .int .i64 y5])).run Try.prog w = .ok (x0 == y0 && (x1 == y1 && (x2 == y2 && (x3 == y3 && (x4 == y4 && (x5 == y5)))))) w := eq_52 9997 w x0 x1 x2 x3 x4 x5 y0 y1 y2 y3 y4 y5
@[go_sem high] theorem eq_52_9998 (w : World) (x0 : Int) (x1 : Int) (x2 : Int) (x3 : Int) (x4 : Int) (x5 : Int) (y0 : Int) (y1 : Int) (y2 : Int) (y3 : Int) (y4 : Int) (y5 : Int) : (Op.equalIn 9998 52 (.agg #[.int .i64 x0, .int .i64 x1, .int .i64 x2, .int .i64 x3, .int .i64 x4, .int .i64 x5]) (.agg #[.int .i64 y0, .int .i64 y1, .int .i64 y2, .int .i64 y3, .int .i64 y4, .int .i64 y5])).run Try.prog w = .ok (x0 == y0 && (x1 == y1 && (x2 == y2 && (x3 == y3 && (x4 == y4 && (x5 == y5)))))) w := eq_52 9996 w x0 x1 x2 x3 x4 x5 y0 y1 y2 y3 y4 y5

@[go_sem high] theorem build_32_0_1_2 (a0_0 : Int) (a1_0 : Int) (a2_0 : Int) (w : World) : (buildR 32 [(0, .int .i64 a0_0), (1, .int .i64 a1_0), (2, .int .i64 a2_0)]).run Try.prog w = .ok (.agg #[.int .i64 a0_0, .int .i64 a1_0, .int .i64 a2_0]) w := run_buildR_of w (by kernel_rfl)
@[go_sem high] theorem build_34_0_3 (a0_0 : ByteArray) (a3_0 : Int) (a3_1 : Int) (a3_2 : Int) (w : World) : (buildR 34 [(0, .string a0_0), (3, .agg #[.int .i64 a3_0, .int .i64 a3_1, .int .i64 a3_2])]).run Try.prog w = .ok (.agg #[.string a0_0, .int .i64 0, .bool false, .int .i64 a3_0, .int .i64 a3_1, .int .i64 a3_2, .int .i64 0, .int .i64 0]) w := run_buildR_of w (by kernel_rfl)
@[go_sem high] theorem build_34_0_4 (a0_0 : ByteArray) (a4_0 : Int) (w : World) : (buildR 34 [(0, .string a0_0), (4, .int .i64 a4_0)]).run Try.prog w = .ok (.agg #[.string a0_0, .int .i64 0, .bool false, .int .i64 0, .int .i64 0, .int .i64 0, .int .i64 a4_0, .int .i64 0]) w := run_buildR_of w (by kernel_rfl)
@[go_sem high] theorem build_52_0_1_2_3_4_5 (a0_0 : Int) (a1_0 : Int) (a2_0 : Int) (a3_0 : Int) (a4_0 : Int) (a5_0 : Int) (w : World) : (buildR 52 [(0, .int .i64 a0_0), (1, .int .i64 a1_0), (2, .int .i64 a2_0), (3, .int .i64 a3_0), (4, .int .i64 a4_0), (5, .int .i64 a5_0)]).run Try.prog w = .ok (.agg #[.int .i64 a0_0, .int .i64 a1_0, .int .i64 a2_0, .int .i64 a3_0, .int .i64 a4_0, .int .i64 a5_0]) w := run_buildR_of w (by kernel_rfl)

end Go.Proofs.Ytajkfmnnokkcaaa

/- LAWS of this program's struct types: a whole row loaded, stored, built, compared. No condition. -/
import Derived.Test.YthmicnjigfcljaaProg
import Derived.Test.YthmicnjigfcljaaMa
set_option linter.unusedSimpArgs false
set_option linter.unusedVariables false
namespace Go.Proofs.Ythmicnjigfcljaa
open Go.RowKit

/-- api.Rat -/
@[go_sem high] theorem load_23 (w : World) (g : Nat) (h : rowOk 2 (w.row g) = true) : (loadR 23 (.pointer (some ⟨g, 0, none⟩))).run Try.prog w = .ok (rowV (w.row g)) w :=
  run_loadR_row w Try.underlying23 rfl (by kernel_rfl) h
@[go_sem high] theorem store_23 (w : World) (g : Nat) (x0 : Int) (x1 : Int) (h : rowOkW 2 (w.row g) = true) : (storeR 23 (.pointer (some ⟨g, 0, none⟩)) (.agg #[.int .i64 x0, .int .i64 x1])).run Try.prog w = .ok () (w.setRow g #[.int .i64 x0, .int .i64 x1]) :=
  run_storeR_row w (by kernel_rfl) rfl h
@[go_sem high] theorem alloc_23 (w : World) : (allocR 23).run Try.prog w = .ok (.pointer (some ⟨w.heap.size, 0, none⟩)) (w.alloc (.cells #[.int .i64 0, .int .i64 0] 23)) := by kernel_rfl
theorem ret_23 {fn : Func} {a : Act} {w : World} {R : Ending → World → Prop} {p : Tmp} {g : Nat} (h : fn.results = #[.cell p 23]) (hp : a.tmps.getD p undef = .pointer (some ⟨g, 0, none⟩)) (hrow : rowOk 2 (w.row g) = true) (hdf : a.defers = []) (hR : R (.returned (rowV (w.row g))) w) : bodyPost Try.prog fn R .ret a w :=
  ret_cell h hp Try.underlying23 rfl (by kernel_rfl) hrow hdf hR
theorem rett_23 {fn : Func} {a : Act} {w : World} {R : Ending → World → Prop} {p q : Tmp} {g : Nat} (h : fn.results = #[.cell p 23, .tmp q]) (hp : a.tmps.getD p undef = .pointer (some ⟨g, 0, none⟩)) (hrow : rowOk 2 (w.row g) = true) (hdf : a.defers = []) (hR : R (.returned (.tuple #[rowV (w.row g), a.tmps.getD q undef])) w) : bodyPost Try.prog fn R .ret a w :=
  ret_cell_tmp h hp Try.underlying23 rfl (by kernel_rfl) hrow hdf hR
set_option maxRecDepth 100000 in
theorem eq_23 (d : Nat) (w : World) (x0 : Int) (x1 : Int) (y0 : Int) (y1 : Int) : (Op.equalIn (d + 3) 23 (.agg #[.int .i64 x0, .int .i64 x1]) (.agg #[.int .i64 y0, .int .i64 y1])).run Try.prog w = .ok (x0 == y0 && (x1 == y1)) w := by
  rw [show d + 3 = (d + 2) + 1 from rfl, run_equalIn_agg w _ 23 _ _ (by kernel_rfl) (by kernel_rfl)]
  simp only [Program.fieldsOf, Try.underlying23]
  simp [go_sem]
  by_cases h0 : x0 = y0
  case neg => simp [h0]
  by_cases h1 : x1 = y1
  case neg => simp [h1, h0]
  simp [h0, h1]
@[go_sem high] theorem eq_23_10000 (w : World) (x0 : Int) (x1 : Int) (y0 : Int) (y1 : Int) : (Op.equalIn 10000 23 (.agg #[.int .i64 x0, .int .i64 x1]) (.agg #[.int .i64 y0, .int .i64 y1])).run Try.prog w = .ok (x0 == y0 && (x1 == y1)) w := eq_23 9997 w x0 x1 y0 y1
@[go_sem high] theorem eq_23_9999 (w : World) (x0 : Int) (x1 : Int) (y0 : Int) (y1 : Int) : (Op.equalIn 9999 23 (.agg #[.int .i64 x0, .int .i64 x1]) (.agg #[.int .i64 y0, .int .i64 y1])).run Try.prog w = .ok (x0 == y0 && (x1 == y1)) w := eq_23 9996 w x0 x1 y0 y1
@[go_sem high] theorem eq_23_9998 (w : World) (x0 : Int) (x1 : Int) (y0 : Int) (y1 : Int) : (Op.equalIn 9998 23 (.agg #[.int .i64 x0, .int .i64 x1]) (.agg #[.int .i64 y0, .int .i64 y1])).run Try.prog w = .ok (x0 == y0 && (x1 == y1)) w := eq_23 9995 w x0 x1 y0 y1

/-- api.Expr -/
@[go_sem high] theorem load_26 (w : World) (g : Nat) (h : rowOk 5 (w.row g) = true) : (loadR 26 (.pointer (some ⟨g, 0, none⟩))).run Try.prog w = .ok (rowV (w.row g)) w :=
  run_loadR_row w Try.underlying26 rfl (by kernel_rfl) h
@[go_sem high] theorem store_26 (w : World) (g : Nat) (x0 : Int) (x1 : Int) (x2 : Int) (x3 : Int) (x4p : Option Addr) (x4l x4c : Nat) (h : rowOkW 5 (w.row g) = true) : (storeR 26 (.pointer (some ⟨g, 0, none⟩)) (.agg #[.int .i64 x0, .int .i64 x1, .int .i64 x2, .int .i64 x3, .slice x4p x4l x4c])).run Try.prog w = .ok () (w.setRow g #[.int .i64 x0, .int .i64 x1, .int .i64 x2, .int .i64 x3, .slice x4p x4l x4c]) :=
  run_storeR_row w (by kernel_rfl) rfl h
@[go_sem high] theorem alloc_26 (w : World) : (allocR 26).run Try.prog w = .ok (.pointer (some ⟨w.heap.size, 0, none⟩)) (w.alloc (.cells #[.int .i64 0, .int .i64 0, .int .i64 0, .int .i64 0, .slice none 0 0] 26)) := by kernel_rfl
theorem ret_26 {fn : Func} {a : Act} {w : World} {R : Ending → World → Prop} {p : Tmp} {g : Nat} (h : fn.results = #[.cell p 26]) (hp : a.tmps.getD p undef = .pointer (some ⟨g, 0, none⟩)) (hrow : rowOk 5 (w.row g) = true) (hdf : a.defers = []) (hR : R (.returned (rowV (w.row g))) w) : bodyPost Try.prog fn R .ret a w :=
  ret_cell h hp Try.underlying26 rfl (by kernel_rfl) hrow hdf hR
theorem rett_26 {fn : Func} {a : Act} {w : World} {R : Ending → World → Prop} {p q : Tmp} {g : Nat} (h : fn.results = #[.cell p 26, .tmp q]) (hp : a.tmps.getD p undef = .pointer (some ⟨g, 0, none⟩)) (hrow : rowOk 5 (w.row g) = true) (hdf : a.defers = []) (hR : R (.returned (.tuple #[rowV (w.row g), a.tmps.getD q undef])) w) : bodyPost Try.prog fn R .ret a w :=
  ret_cell_tmp h hp Try.underlying26 rfl (by kernel_rfl) hrow hdf hR

/-- [7]api.Rat -/
@[go_sem high] theorem load_27 (w : World) (g : Nat) (h : rowOk 14 (w.row g) = true) : (loadR 27 (.pointer (some ⟨g, 0, none⟩))).run Try.prog w = .ok (rowV (w.row g)) w :=
  run_loadR_row w Try.underlying27 rfl (by kernel_rfl) h
@[go_sem high] theorem store_27 (w : World) (g : Nat) (x0 : Int) (x1 : Int) (x2 : Int) (x3 : Int) (x4 : Int) (x5 : Int) (x6 : Int) (x7 : Int) (x8 : Int) (x9 : Int) (x10 : Int) (x11 : Int) (x12 : Int) (x13 : Int) (h : rowOkW 14 (w.row g) = true) : (storeR 27 (.pointer (some ⟨g, 0, none⟩)) (.agg #[.int .i64 x0, .int .i64 x1, .int .i64 x2, .int .i64 x3, .int .i64 x4, .int .i64 x5, .int .i64 x6, .int .i64 x7, .int .i64 x8, .int .i64 x9, .int .i64 x10, .int .i64 x11, .int .i64 x12, .int .i64 x13])).run Try.prog w = .ok () (w.setRow g #[.int .i64 x0, .int .i64 x1, .int .i64 x2, .int .i64 x3, .int .i64 x4, .int .i64 x5, .int .i64 x6, .int .i64 x7, .int .i64 x8, .int .i64 x9, .int .i64 x10, .int .i64 x11, .int .i64 x12, .int .i64 x13]) :=
  run_storeR_row w (by kernel_rfl) rfl h
@[go_sem high] theorem alloc_27 (w : World) : (allocR 27).run Try.prog w = .ok (.pointer (some ⟨w.heap.size, 0, none⟩)) (w.alloc (.cells #[.int .i64 0, .int .i64 0, .int .i64 0, .int .i64 0, .int .i64 0, .int .i64 0, .int .i64 0, .int .i64 0, .int .i64 0, .int .i64 0, .int .i64 0, .int .i64 0, .int .i64 0, .int .i64 0] 27)) := by kernel_rfl
theorem ret_27 {fn : Func} {a : Act} {w : World} {R : Ending → World → Prop} {p : Tmp} {g : Nat} (h : fn.results = #[.cell p 27]) (hp : a.tmps.getD p undef = .pointer (some ⟨g, 0, none⟩)) (hrow : rowOk 14 (w.row g) = true) (hdf : a.defers = []) (hR : R (.returned (rowV (w.row g))) w) : bodyPost Try.prog fn R .ret a w :=
  ret_cell h hp Try.underlying27 rfl (by kernel_rfl) hrow hdf hR
theorem rett_27 {fn : Func} {a : Act} {w : World} {R : Ending → World → Prop} {p q : Tmp} {g : Nat} (h : fn.results = #[.cell p 27, .tmp q]) (hp : a.tmps.getD p undef = .pointer (some ⟨g, 0, none⟩)) (hrow : rowOk 14 (w.row g) = true) (hdf : a.defers = []) (hR : R (.returned (.tuple #[rowV (w.row g), a.tmps.getD q undef])) w) : bodyPost Try.prog fn R .ret a w :=
  ret_cell_tmp h hp Try.underlying27 rfl (by kernel_rfl) hrow hdf hR
set_option maxRecDepth 100000 in
theorem eq_27 (d : Nat) (w : World) (x0 : Int) (x1 : Int) (x2 : Int) (x3 : Int) (x4 : Int) (x5 : Int) (x6 : Int) (x7 : Int) (x8 : Int) (x9 : Int) (x10 : Int) (x11 : Int) (x12 : Int) (x13 : Int) (y0 : Int) (y1 : Int) (y2 : Int) (y3 : Int) (y4 : Int) (y5 : Int) (y6 : Int) (y7 : Int) (y8 : Int) (y9 : Int) (y10 : Int) (y11 : Int) (y12 : Int) (y13 : Int) : (Op.equalIn (d + 4) 27 (.agg #[.int .i64 x0, .int .i64 x1, .int .i64 x2, .int .i64 x3, .int .i64 x4, .int .i64 x5, .int .i64 x6, .int .i64 x7, .int .i64 x8, .int .i64 x9, .int .i64 x10, .int .i64 x11, .int .i64 x12, .int .i64 x13]) (.agg #[.int .i64 y0, .int .i64 y1, .int .i64 y2, .int .i64 y3, .int .i64 y4, .int .i64 y5, .int .i64 y6, .int .i64 y7, .int .i64 y8, .int .i64 y9, .int .i64 y10, .int .i64 y11, .int .i64 y12, .int .i64 y13])).run Try.prog w = .ok (x0 == y0 && (x1 == y1 && (x2 == y2 && (x3 == y3 && (x4 == y4 && (x5 == y5 && (x6 == y6 && (x7 == y7 && (x8 == y8 && (x9 == y9 && (x10 == y10 && (x11 == y11 && (x12 == y12 && (x13 == y13)))))))))))))) w := by
  rw [show d + 4 = (d + 3) + 1 from rfl, Op.equalIn]
  simp only [Sem.run_bind, run_underlying Try.underlying27, Result.andThen_ok]
  simp only [Std.Legacy.Range.forIn_eq_forIn_range', Std.Legacy.Range.size, Nat.sub_zero, Nat.add_sub_cancel, Nat.div_one, List.range'_succ, List.range'_zero, List.forIn_cons, List.forIn_nil]
  simp [go_sem, eq_23]
  by_cases h0 : x0 = y0
  case neg => simp [h0]
  by_cases h1 : x1 = y1
  case neg => simp [h1, h0]
  by_cases h2 : x2 = y2
  case neg => simp [h2, h0, h1]
  by_cases h3 : x3 = y3
  case neg => simp [h3, h0, h1, h2]
  by_cases h4 : x4 = y4
  case neg => simp [h4, h0, h1, h2, h3]
  by_cases h5 : x5 = y5
  case neg => simp [h5, h0, h1, h2, h3, h4]
  by_cases h6 : x6 = y6
  case neg => simp [h6, h0, h1, h2, h3, h4, h5]
  by_cases h7 : x7 = y7
  case neg => simp [h7, h0, h1, h2, h3, h4, h5, h6]
  by_cases h8 : x8 = y8
  case neg => simp [h8, h0, h1, h2, h3, h4, h5, h6, h7]
  by_cases h9 : x9 = y9
  case neg => simp [h9, h0, h1, h2, h3, h4, h5, h6, h7, h8]
  by_cases h10 : x10 = y10
  case neg => simp [h10, h0, h1, h2, h3, h4, h5, h6, h7, h8, h9]
  by_cases h11 : x11 = y11
  case neg => simp [h11, h0, h1, h2, h3, h4, h5, h6, h7, h8, h9, h10]
  by_cases h12 : x12 = y12
  case neg => simp [h12, h0, h1, h2, h3, h4, h5, h6, h7, h8, h9, h10, h11]
  by_cases h13 : x13 = y13
  case neg => simp [h13, h0, h1, h2, h3, h4, h5, h6, h7, h8, h9, h10, h11, h12]
  simp [h0, h1, h2, h3, h4, h5, h6, h7, h8, h9, h10, h11, h12, h13]
@[go_sem high] theorem eq_27_10000 (w : World) (x0 : Int) (x1 : Int) (x2 : Int) (x3 : Int) (x4 : Int) (x5 : Int) (x6 : Int) (x7 : Int) (x8 : Int) (x9 : Int) (x10 : Int) (x11 : Int) (x12 : Int) (x13 : Int) (y0 : Int) (y1 : Int) (y2 : Int) (y3 : Int) (y4 : Int) (y5 : Int) (y6 : Int) (y7 : Int) (y8 : Int) (y9 : Int) (y10 : Int) (y11 : Int) (y12 : Int) (y13 : Int) : (Op.equalIn 10000 27 (.agg #[.int .i64 x0, .int .i64 x1, .int .i64 x2, .int .i64 x3, .int .i64 x4, .int .i64 x5, .int .i64 x6, .int .i64 x7, .int .i64 x8, .int .i64 x9, .int .i64 x10, .int .i64 x11, .int .i64 x12, .int .i64 x13]) (.agg #[.int .i64 y0, .int .i64 y1, .int .i64 y2, .int .i64 y3, .int .i64 y4, .int .i64 y5, .int .i64 y6, .int .i64 y7, .int .i64 y8, .int .i64 y9, .int .i64 y10, .int .i64 y11, .int .i64 y12, .int .i64 y13])).run Try.prog w = .ok (x0 == y0 && (x1 == y1 && (x2 == y2 && (x3 == y3 && (x4 == y4 && (x5 == y5 && (x6 == y6 && (x7 == y7 && (x8 == y8 && (x9 == y9 && (x10 == y10 && (x11 == y11 && (x12 == y12 && (x13 == y13)))))))))))))) w := eq_27 9996 w x0 x1 x2 x3 x4 x5 x6 x7 x8 x9 x10 x11 x12 x13 y0 y1 y2 y3 y4 y5 y6 y7 y8 y9 y10 y11 y12 y13
@[go_sem high] theorem eq_27_9999 (w : World) (x0 : Int) (x1 : Int) (x2 : Int) (x3 : Int) (x4 : Int) (x5 : Int) (x6 : Int) (x7 : Int) (x8 : Int) (x9 : Int) (x10 : Int) (x11 : Int) (x12 : Int) (x13 : Int) (y0 : Int) (y1 : Int) (y2 : Int) (y3 : Int) (y4 : Int) (y5 : Int) (y6 : Int) (y7 : Int) (y8 : Int) (y9 : Int) (y10 : Int) (y11 : Int) (y12 : Int) (y13 : Int) : (Op.equalIn 9999 27 (.agg #[.int .i64 x0, .int .i64 x1, .int .i64 x2, .int .i64 x3, .int .i64 x4, .int .i64 x5, .int .i64 x6, .int .i64 x7, .int .i64 x8, .int .i64 x9, .int .i64 x10, .int .i64 x11, .int .i64 x12, .int .i64 x13]) (.agg #[.int .i64 y0, .int .i64 y1, .int .i64 y2, .int .i64 y3, .int .i64 y4, .int .i64 y5, .int .i64 y6, .int .i64 y7, .int .i64 y8, .int .i64 y9, .int .i64 y10, .int .i64 y11, .int .i64 y12, .int .i64 y13])).run Try.prog w = .ok (x0 == y0 && (x1 == y1 && (x2 == y2 && (x3 == y3 && (x4 == y4 && (x5 == y5 && (x6 == y6 && (x7 == y7 && (x8 == y8 && (x9 == y9 && (x10 == y10 && (x11 == y11 && (x12 == y12 && (x13 == y13)))))))))))))) w := eq_27 9995 w x0 x1 x2 x3 x4 x5 x6 x7 x8 x9 x10 x11 x12 x13 y0 y1 y2 y3 y4 y5 y6 y7 y8 y9 y10 y11 y12 y13
@[go_sem high] theorem eq_27_9998 (w : World) (x0 : Int) (x1 : Int) (x2 : Int) (x3 : Int) (x4 : Int) (x5 : Int) (x6 : Int) (x7 : Int) (x8 : Int) (x9 : Int) (x10 : Int) (x11 : Int) (x12 : Int) (x13 : Int) (y0 : Int) (y1 : Int) (y2 : Int) (y3 : Int) (y4 : Int) (y5 : Int) (y6 : Int) (y7 : Int) (y8 : Int) (y9 : Int) (y10 : Int) (y11 : Int) (y12 : Int) (y13 : Int) : (Op.equalIn 9998 27 (.agg #[.int .i64 x0, .int .i64 x1, .int .i64 x2, .int .i64 x3, .int .i64 x4, .int .i64 x5, .int .i64 x6, .int .i64 x7, .int .i64 x8, .int .i64 x9, .int .i64 x10, .int .i64 x11, .int .i64 x12, .int .i64 x13]) (.agg #[.int .i64 y0, .int .i64 y1, .int .i64 y2, .int .i64 y3, .int .i64 y4, .int .i64 y5, .int .i64 y6, .int .i64 y7, .int .i64 y8, .int .i64 y9, .int .i64 y10, .int .i64 y11, .int .i64 y12, .int .i64 y13])).run Try.prog w = .ok (x0 == y0 && (x1 == y1 && (x2 == y2 && (x3 == y3 && (x4 == y4 && (x5 == y5 && (x6 == y6 && (x7 == y7 && (x8 == y8 && (x9 == y9 && (x10 == y10 && (x11 == y11 && (x12 == y12 && (x13 == y13)))))))))))))) w := eq_27 9994 w x0 x1 x2 x3 x4 x5 x6 x7 x8 x9 x10 x11 x12 x13 y0 y1 y2 y3 y4 y5 y6 y7 y8 y9 y10 y11 y12 y13

/-- api.Form -/
@[go_sem high] theorem load_30 (w : World) (g : Nat) (h : rowOk 15 (w.row g) = true) : (loadR 30 (.pointer (some ⟨g, 0, none⟩))).run Try.prog w = .ok (rowV (w.row g)) w :=
  run_loadR_row w Try.underlying30 rfl (by kernel_rfl) h
@[go_sem high] theorem store_30 (w : World) (g : Nat) (x0 : Int) (x1 : Int) (x2 : Int) (x3 : Int) (x4 : Int) (x5 : Int) (x6 : Int) (x7 : Int) (x8 : Int) (x9 : Int) (x10 : Int) (x11 : Int) (x12 : Int) (x13 : Int) (x14p : Option Addr) (x14l x14c : Nat) (h : rowOkW 15 (w.row g) = true) : (storeR 30 (.pointer (some ⟨g, 0, none⟩)) (.agg #[.int .i64 x0, .int .i64 x1, .int .i64 x2, .int .i64 x3, .int .i64 x4, .int .i64 x5, .int .i64 x6, .int .i64 x7, .int .i64 x8, .int .i64 x9, .int .i64 x10, .int .i64 x11, .int .i64 x12, .int .i64 x13, .slice x14p x14l x14c])).run Try.prog w = .ok () (w.setRow g #[.int .i64 x0, .int .i64 x1, .int .i64 x2, .int .i64 x3, .int .i64 x4, .int .i64 x5, .int .i64 x6, .int .i64 x7, .int .i64 x8, .int .i64 x9, .int .i64 x10, .int .i64 x11, .int .i64 x12, .int .i64 x13, .slice x14p x14l x14c]) :=
  run_storeR_row w (by kernel_rfl) rfl h
@[go_sem high] theorem alloc_30 (w : World) : (allocR 30).run Try.prog w = .ok (.pointer (some ⟨w.heap.size, 0, none⟩)) (w.alloc (.cells #[.int .i64 0, .int .i64 0, .int .i64 0, .int .i64 0, .int .i64 0, .int .i64 0, .int .i64 0, .int .i64 0, .int .i64 0, .int .i64 0, .int .i64 0, .int .i64 0, .int .i64 0, .int .i64 0, .slice none 0 0] 30)) := by kernel_rfl
theorem ret_30 {fn : Func} {a : Act} {w : World} {R : Ending → World → Prop} {p : Tmp} {g : Nat} (h : fn.results = #[.cell p 30]) (hp : a.tmps.getD p undef = .pointer (some ⟨g, 0, none⟩)) (hrow : rowOk 15 (w.row g) = true) (hdf : a.defers = []) (hR : R (.returned (rowV (w.row g))) w) : bodyPost Try.prog fn R .ret a w :=
  ret_cell h hp Try.underlying30 rfl (by kernel_rfl) hrow hdf hR
theorem rett_30 {fn : Func} {a : Act} {w : World} {R : Ending → World → Prop} {p q : Tmp} {g : Nat} (h : fn.results = #[.cell p 30, .tmp q]) (hp : a.tmps.getD p undef = .pointer (some ⟨g, 0, none⟩)) (hrow : rowOk 15 (w.row g) = true) (hdf : a.defers = []) (hR : R (.returned (.tuple #[rowV (w.row g), a.tmps.getD q undef])) w) : bodyPost Try.prog fn R .ret a w :=
  ret_cell_tmp h hp Try.underlying30 rfl (by kernel_rfl) hrow hdf hR

/-- api.Ctx -/
@[go_sem high] theorem load_58 (w : World) (g : Nat) (h : rowOk 12 (w.row g) = true) : (loadR 58 (.pointer (some ⟨g, 0, none⟩))).run Try.prog w = .ok (rowV (w.row g)) w :=
  run_loadR_row w Try.underlying58 rfl (by kernel_rfl) h
@[go_sem high] theorem store_58 (w : World) (g : Nat) (x0 : Int) (x1 : Int) (x2 : Int) (x3 : Int) (x4 : Int) (x5 : Int) (x6 : Int) (x7 : Int) (x8 : Int) (x9 : Int) (x10 : Int) (x11 : Int) (h : rowOkW 12 (w.row g) = true) : (storeR 58 (.pointer (some ⟨g, 0, none⟩)) (.agg #[.int .i64 x0, .int .i64 x1, .int .i64 x2, .int .i64 x3, .int .i64 x4, .int .i64 x5, .int .i64 x6, .int .i64 x7, .int .i64 x8, .int .i64 x9, .int .i64 x10, .int .i64 x11])).run Try.prog w = .ok () (w.setRow g #[.int .i64 x0, .int .i64 x1, .int .i64 x2, .int .i64 x3, .int .i64 x4, .int .i64 x5, .int .i64 x6, .int .i64 x7, .int .i64 x8, .int .i64 x9, .int .i64 x10, .int .i64 x11]) :=
  run_storeR_row w (by kernel_rfl) rfl h
@[go_sem high] theorem alloc_58 (w : World) : (allocR 58).run Try.prog w = .ok (.pointer (some ⟨w.heap.size, 0, none⟩)) (w.alloc (.cells #[.int .i64 0, .int .i64 0, .int .i64 0, .int .i64 0, .int .i64 0, .int .i64 0, .int .i64 0, .int .i64 0, .int .i64 0, .int .i64 0, .int .i64 0, .int .i64 0] 58)) := by kernel_rfl
theorem ret_58 {fn : Func} {a : Act} {w : World} {R : Ending → World → Prop} {p : Tmp} {g : Nat} (h : fn.results = #[.cell p 58]) (hp : a.tmps.getD p undef = .pointer (some ⟨g, 0, none⟩)) (hrow : rowOk 12 (w.row g) = true) (hdf : a.defers = []) (hR : R (.returned (rowV (w.row g))) w) : bodyPost Try.prog fn R .ret a w :=
  ret_cell h hp Try.underlying58 rfl (by kernel_rfl) hrow hdf hR
theorem rett_58 {fn : Func} {a : Act} {w : World} {R : Ending → World → Prop} {p q : Tmp} {g : Nat} (h : fn.results = #[.cell p 58, .tmp q]) (hp : a.tmps.getD p undef = .pointer (some ⟨g, 0, none⟩)) (hrow : rowOk 12 (w.row g) = true) (hdf : a.defers = []) (hR : R (.returned (.tuple #[rowV (w.row g), a.tmps.getD q undef])) w) : bodyPost Try.prog fn R .ret a w :=
  ret_cell_tmp h hp Try.underlying58 rfl (by kernel_rfl) hrow hdf hR
set_option maxRecDepth 100000 in
theorem eq_58 (d : Nat) (w : World) (x0 : Int) (x1 : Int) (x2 : Int) (x3 : Int) (x4 : Int) (x5 : Int) (x6 : Int) (x7 : Int) (x8 : Int) (x9 : Int) (x10 : Int) (x11 : Int) (y0 : Int) (y1 : Int) (y2 : Int) (y3 : Int) (y4 : Int) (y5 : Int) (y6 : Int) (y7 : Int) (y8 : Int) (y9 : Int) (y10 : Int) (y11 : Int) : (Op.equalIn (d + 3) 58 (.agg #[.int .i64 x0, .int .i64 x1, .int .i64 x2, .int .i64 x3, .int .i64 x4, .int .i64 x5, .int .i64 x6, .int .i64 x7, .int .i64 x8, .int .i64 x9, .int .i64 x10, .int .i64 x11]) (.agg #[.int .i64 y0, .int .i64 y1, .int .i64 y2, .int .i64 y3, .int .i64 y4, .int .i64 y5, .int .i64 y6, .int .i64 y7, .int .i64 y8, .int .i64 y9, .int .i64 y10, .int .i64 y11])).run Try.prog w = .ok (x0 == y0 && (x1 == y1 && (x2 == y2 && (x3 == y3 && (x4 == y4 && (x5 == y5 && (x6 == y6 && (x7 == y7 && (x8 == y8 && (x9 == y9 && (x10 == y10 && (x11 == y11)))))))))))) w := by
  rw [show d + 3 = (d + 2) + 1 from rfl, run_equalIn_agg w _ 58 _ _ (by kernel_rfl) (by kernel_rfl)]
  simp only [Program.fieldsOf, Try.underlying58]
  simp [go_sem, eq_27]
  by_cases h0 : x0 = y0
  case neg => simp [h0]
  by_cases h1 : x1 = y1
  case neg => simp [h1, h0]
  by_cases h2 : x2 = y2
  case neg => simp [h2, h0, h1]
  by_cases h3 : x3 = y3
  case neg => simp [h3, h0, h1, h2]
  by_cases h4 : x4 = y4
  case neg => simp [h4, h0, h1, h2, h3]
  by_cases h5 : x5 = y5
  case neg => simp [h5, h0, h1, h2, h3, h4]
  by_cases h6 : x6 = y6
  case neg => simp [h6, h0, h1, h2, h3, h4, h5]
  by_cases h7 : x7 = y7
  case neg => simp [h7, h0, h1, h2, h3, h4, h5, h6]
  by_cases h8 : x8 = y8
  case neg => simp [h8, h0, h1, h2, h3, h4, h5, h6, h7]
  by_cases h9 : x9 = y9
  case neg => simp [h9, h0, h1, h2, h3, h4, h5, h6, h7, h8]
  by_cases h10 : x10 = y10
  case neg => simp [h10, h0, h1, h2, h3, h4, h5, h6, h7, h8, h9]
  by_cases h11 : x11 = y11
  case neg => simp [h11, h0, h1, h2, h3, h4, h5, h6, h7, h8, h9, h10]
  simp [h0, h1, h2, h3, h4, h5, h6, h7, h8, h9, h10, h11]
@[go_sem high] theorem eq_58_10000 (w : World) (x0 : Int) (x1 : Int) (x2 : Int) (x3 : Int) (x4 : Int) (x5 : Int) (x6 : Int) (x7 : Int) (x8 : Int) (x9 : Int) (x10 : Int) (x11 : Int) (y0 : Int) (y1 : Int) (y2 : Int) (y3 : Int) (y4 : Int) (y5 : Int) (y6 : Int) (y7 : Int) (y8 : Int) (y9 : Int) (y10 : Int) (y11 : Int) : (Op.equalIn 10000 58 (.agg #[.int .i64 x0, .int .i64 x1, .int .i64 x2, .int .i64 x3, .int .i64 x4, .int .i64 x5, .int .i64 x6, .int .i64 x7, .int .i64 x8, .int .i64 x9, .int .i64 x10, .int .i64 x11]) (.agg #[.int .i64 y0, .int .i64 y1, .int .i64 y2, .int .i64 y3, .int .i64 y4, .int .i64 y5, .int .i64 y6, .int .i64 y7, .int .i64 y8, .int .i64 y9, .int .i64 y10, .int .i64 y11])).run Try.prog w = .ok (x0 == y0 && (x1 == y1 && (x2 == y2 && (x3 == y3 && (x4 == y4 && (x5 == y5 && (x6 == y6 && (x7 == y7 && (x8 == y8 && (x9 == y9 && (x10 == y10 && (x11 == y11)))))))))))) w := eq_58 9997 w x0 x1 x2 x3 x4 x5 x6 x7 x8 x9 x10 x11 y0 y1 y2 y3 y4 y5 y6 y7 y8 y9 y10 y11
@[go_sem high] theorem eq_58_9999 (w : World) (x0 : Int) (x1 : Int) (x2 : Int) (x3 : Int) (x4 : Int) (x5 : Int) (x6 : Int) (x7 : Int) (x8 : Int) (x9 : Int) (x10 : Int) (x11 : Int) (y0 : Int) (y1 : Int) (y2 : Int) (y3 : Int) (y4 : Int) (y5 : Int) (y6 : Int) (y7 : Int) (y8 : Int) (y9 : Int) (y10 : Int) (y11 : Int) : (Op.equalIn 9999 58 (.agg #[.int .i64 x0, .int .i64 x1, .int .i64 x2, .int .i64 x3, .int .i64 x4, .int .i64 x5, .int .i64 x6, .int .i64 x7, .int .i64 x8, .int .i64 x9, .int .i64 x10, .int .i64 x11]) (.agg #[.int .i64 y0, .int .i64 y1, .int .i64 y2, .int .i64 y3, .int .i64 y4, .int .i64 y5, .int .i64 y6, .int .i64 y7, .int .i64 y8, .int .i64 y9, .int .i64 y10, .int .i64 y11])).run Try.prog w = .ok (x0 == y0 && (x1 == y1 && (x2 == y2 && (x3 == y3 && (x4 == y4 && (x5 == y5 && (x6 == y6 && (x7 == y7 && (x8 == y8 && (x9 == y9 && (x10 == y10 && (x11 == y11)))))))))))) w := eq_58 9996 w x0 x1 x2 x3 x4 x5 x6 x7 x8 x9 x10 x11 y0 y1 y2 y3 y4 y5 y6 y7 y8 y9 y10 y11
@[go_sem high] theorem eq_58_9998 (w : World) (x0 : Int) (x1 : Int) (x2 : Int) (x3 : Int) (x4 : Int) (x5 : Int) (x6 : Int) (x7 : Int) (x8 : Int) (x9 : Int) (x10 : Int) (x11 : Int) (y0 : Int) (y1 : Int) (y2 : Int) (y3 : Int) (y4 : Int) (y5 : Int) (y6 : Int) (y7 : Int) (y8 : Int) (y9 : Int) (y10 : Int) (y11 : Int) : (Op.equalIn 9998 58 (.agg #[.int .i64 x0, .int .i64 x1, .int .i64 x2, .int .i64 x3, .int .i64 x4, .int .i64 x5, .int .i64 x6, .int .i64 x7, .int .i64 x8, .int .i64 x9, .int .i64 x10, .int .i64 x11]) (.agg #[.int .i64 y0, .int .i64 y1, .int .i64 y2, .int .i64 y3, .int .i64 y4, .int .i64 y5, .int .i64 y6, .int .i64 y7, .int .i64 y8, .int .i64 y9, .int .i64 y10, .int .i64 y11])).run Try.prog w = .ok (x0 == y0 && (x1 == y1 && (x2 == y2 && (x3 == y3 && (x4 == y4 && (x5 == y5 && (x6 == y6 && (x7 == y7 && (x8 == y8 && (x9 == y9 && (x10 == y10 && (x11 == y11)))))))))))) w := eq_58 9995 w x0 x1 x2 x3 x4 x5 x6 x7 x8 x9 x10 x11 y0 y1 y2 y3 y4 y5 y6 y7 y8 y9 y10 y11

/-- api.Part -/
@[go_sem high] theorem load_76 (w : World) (g : Nat) (h : rowOk 2 (w.row g) = true) : (loadR 76 (.pointer (some ⟨g, 0, none⟩))).run Try.prog w = .ok (rowV (w.row g)) w :=
  run_loadR_row w Try.underlying76 rfl (by kernel_rfl) h
@[go_sem high] theorem store_76 (w : World) (g : Nat) (x0 : Bool) (x1p : Option Addr) (x1l x1c : Nat) (h : rowOkW 2 (w.row g) = true) : (storeR 76 (.pointer (some ⟨g, 0, none⟩)) (.agg #[.bool x0, .slice x1p x1l x1c])).run Try.prog w = .ok () (w.setRow g #[.bool x0, .slice x1p x1l x1c]) :=
  run_storeR_row w (by kernel_rfl) rfl h
@[go_sem high] theorem alloc_76 (w : World) : (allocR 76).run Try.prog w = .ok (.pointer (some ⟨w.heap.size, 0, none⟩)) (w.alloc (.cells #[.bool false, .slice none 0 0] 76)) := by kernel_rfl
theorem ret_76 {fn : Func} {a : Act} {w : World} {R : Ending → World → Prop} {p : Tmp} {g : Nat} (h : fn.results = #[.cell p 76]) (hp : a.tmps.getD p undef = .pointer (some ⟨g, 0, none⟩)) (hrow : rowOk 2 (w.row g) = true) (hdf : a.defers = []) (hR : R (.returned (rowV (w.row g))) w) : bodyPost Try.prog fn R .ret a w :=
  ret_cell h hp Try.underlying76 rfl (by kernel_rfl) hrow hdf hR
theorem rett_76 {fn : Func} {a : Act} {w : World} {R : Ending → World → Prop} {p q : Tmp} {g : Nat} (h : fn.results = #[.cell p 76, .tmp q]) (hp : a.tmps.getD p undef = .pointer (some ⟨g, 0, none⟩)) (hrow : rowOk 2 (w.row g) = true) (hdf : a.defers = []) (hR : R (.returned (.tuple #[rowV (w.row g), a.tmps.getD q undef])) w) : bodyPost Try.prog fn R .ret a w :=
  ret_cell_tmp h hp Try.underlying76 rfl (by kernel_rfl) hrow hdf hR

/-- [4]api.Rat -/
@[go_sem high] theorem load_88 (w : World) (g : Nat) (h : rowOk 8 (w.row g) = true) : (loadR 88 (.pointer (some ⟨g, 0, none⟩))).run Try.prog w = .ok (rowV (w.row g)) w :=
  run_loadR_row w Try.underlying88 rfl (by kernel_rfl) h
@[go_sem high] theorem store_88 (w : World) (g : Nat) (x0 : Int) (x1 : Int) (x2 : Int) (x3 : Int) (x4 : Int) (x5 : Int) (x6 : Int) (x7 : Int) (h : rowOkW 8 (w.row g) = true) : (storeR 88 (.pointer (some ⟨g, 0, none⟩)) (.agg #[.int .i64 x0, .int .i64 x1, .int .i64 x2, .int .i64 x3, .int .i64 x4, .int .i64 x5, .int .i64 x6, .int .i64 x7])).run Try.prog w = .ok () (w.setRow g #[.int .i64 x0, .int .i64 x1, .int .i64 x2, .int .i64 x3, .int .i64 x4, .int .i64 x5, .int .i64 x6, .int .i64 x7]) :=
  run_storeR_row w (by kernel_rfl) rfl h
@[go_sem high] theorem alloc_88 (w : World) : (allocR 88).run Try.prog w = .ok (.pointer (some ⟨w.heap.size, 0, none⟩)) (w.alloc (.cells #[.int .i64 0, .int .i64 0, .int .i64 0, .int .i64 0, .int .i64 0, .int .i64 0, .int .i64 0, .int .i64 0] 88)) := by kernel_rfl
theorem ret_88 {fn : Func} {a : Act} {w : World} {R : Ending → World → Prop} {p : Tmp} {g : Nat} (h : fn.results = #[.cell p 88]) (hp : a.tmps.getD p undef = .pointer (some ⟨g, 0, none⟩)) (hrow : rowOk 8 (w.row g) = true) (hdf : a.defers = []) (hR : R (.returned (rowV (w.row g))) w) : bodyPost Try.prog fn R .ret a w :=
  ret_cell h hp Try.underlying88 rfl (by kernel_rfl) hrow hdf hR
theorem rett_88 {fn : Func} {a : Act} {w : World} {R : Ending → World → Prop} {p q : Tmp} {g : Nat} (h : fn.results = #[.cell p 88, .tmp q]) (hp : a.tmps.getD p undef = .pointer (some ⟨g, 0, none⟩)) (hrow : rowOk 8 (w.row g) = true) (hdf : a.defers = []) (hR : R (.returned (.tuple #[rowV (w.row g), a.tmps.getD q undef])) w) : bodyPost Try.prog fn R .ret a w :=
  ret_cell_tmp h hp Try.underlying88 rfl (by kernel_rfl) hrow hdf hR
set_option maxRecDepth 100000 in
theorem eq_88 (d : Nat) (w : World) (x0 : Int) (x1 : Int) (x2 : Int) (x3 : Int) (x4 : Int) (x5 : Int) (x6 : Int) (x7 : Int) (y0 : Int) (y1 : Int) (y2 : Int) (y3 : Int) (y4 : Int) (y5 : Int) (y6 : Int) (y7 : Int) : (Op.equalIn (d + 4) 88 (.agg #[.int .i64 x0, .int .i64 x1, .int .i64 x2, .int .i64 x3, .int .i64 x4, .int .i64 x5, .int .i64 x6, .int .i64 x7]) (.agg #[.int .i64 y0, .int .i64 y1, .int .i64 y2, .int .i64 y3, .int .i64 y4, .int .i64 y5, .int .i64 y6, .int .i64 y7])).run Try.prog w = .ok (x0 == y0 && (x1 == y1 && (x2 == y2 && (x3 == y3 && (x4 == y4 && (x5 == y5 && (x6 == y6 && (x7 == y7)))))))) w := by
  rw [show d + 4 = (d + 3) + 1 from rfl, Op.equalIn]
  simp only [Sem.run_bind, run_underlying Try.underlying88, Result.andThen_ok]
  simp only [Std.Legacy.Range.forIn_eq_forIn_range', Std.Legacy.Range.size, Nat.sub_zero, Nat.add_sub_cancel, Nat.div_one, List.range'_succ, List.range'_zero, List.forIn_cons, List.forIn_nil]
  simp [go_sem, eq_27, eq_23]
  by_cases h0 : x0 = y0
  case neg => simp [h0]
  by_cases h1 : x1 = y1
  case neg => simp [h1, h0]
  by_cases h2 : x2 = y2
  case neg => simp [h2, h0, h1]
  by_cases h3 : x3 = y3
  case neg => simp [h3, h0, h1, h2]
  by_cases h4 : x4 = y4
  case neg => simp [h4, h0, h1, h2, h3]
  by_cases h5 : x5 = y5
  case neg => simp [h5, h0, h1, h2, h3, h4]
  by_cases h6 : x6 = y6
  case neg => simp [h6, h0, h1, h2, h3, h4, h5]
  by_cases h7 : x7 = y7
  case neg => simp [h7, h0, h1, h2, h3, h4, h5, h6]
  simp [h0, h1, h2, h3, h4, h5, h6, h7]
@[go_sem high] theorem eq_88_10000 (w : World) (x0 : Int) (x1 : Int) (x2 : Int) (x3 : Int) (x4 : Int) (x5 : Int) (x6 : Int) (x7 : Int) (y0 : Int) (y1 : Int) (y2 : Int) (y3 : Int) (y4 : Int) (y5 : Int) (y6 : Int) (y7 : Int) : (Op.equalIn 10000 88 (.agg #[.int .i64 x0, .int .i64 x1, .int .i64 x2, .int .i64 x3, .int .i64 x4, .int .i64 x5, .int .i64 x6, .int .i64 x7]) (.agg #[.int .i64 y0, .int .i64 y1, .int .i64 y2, .int .i64 y3, .int .i64 y4, .int .i64 y5, .int .i64 y6, .int .i64 y7])).run Try.prog w = .ok (x0 == y0 && (x1 == y1 && (x2 == y2 && (x3 == y3 && (x4 == y4 && (x5 == y5 && (x6 == y6 && (x7 == y7)))))))) w := eq_88 9996 w x0 x1 x2 x3 x4 x5 x6 x7 y0 y1 y2 y3 y4 y5 y6 y7
@[go_sem high] theorem eq_88_9999 (w : World) (x0 : Int) (x1 : Int) (x2 : Int) (x3 : Int) (x4 : Int) (x5 : Int) (x6 : Int) (x7 : Int) (y0 : Int) (y1 : Int) (y2 : Int) (y3 : Int) (y4 : Int) (y5 : Int) (y6 : Int) (y7 : Int) : (Op.equalIn 9999 88 (.agg #[.int .i64 x0, .int .i64 x1, .int .i64 x2, .int .i64 x3, .int .i64 x4, .int .i64 x5, .int .i64 x6, .int .i64 x7]) (.agg #[.int .i64 y0, .int .i64 y1, .int .i64 y2, .int .i64 y3, .int .i64 y4, .int .i64 y5, .int .i64 y6, .int .i64 y7])).run Try.prog w = .ok (x0 == y0 && (x1 == y1 && (x2 == y2 && (x3 == y3 && (x4 == y4 && (x5 == y5 && (x6 == y6 && (x7 == y7)))))))) w := eq_88 9995 w x0 x1 x2 x3 x4 x5 x6 x7 y0 y1 y2 y3 y4 y5 y6 y7
@[go_sem high] theorem eq_88_9998 (w : World) (x0 : Int) (x1 : Int) (x2 : Int) (x3 : Int) (x4 : Int) (x5 : Int) (x6 : Int) (x7 : Int) (y0 : Int) (y1 : Int) (y2 : Int) (y3 : Int) (y4 : Int) (y5 : Int) (y6 : Int) (y7 : Int) : (Op.equalIn 9998 88 (.agg #[.int .i64 x0, .int .i64 x1, .int .i64 x2, .int .i64 x3, .int .i64 x4, .int .i64 x5, .int .i64 x6, .int .i64 x7]) (.agg #[.int .i64 y0, .int .i64 y1, .int .i64 y2, .int .i64 y3, .int .i64 y4, .int .i64 y5, .int .i64 y6, .int .i64 y7])).run Try.prog w = .ok (x0 == y0 && (x1 == y1 && (x2 == y2 && (x3 == y3 && (x4 == y4 && (x5 == y5 && (x6 == y6 && (x7 == y7)))))))) w := eq_88 9994 w x0 x1 x2 x3 x4 x5 x6 x7 y0 y1 y2 y3 y4 y5 y6 y7

/-- [8]string -/
@[go_sem high] theorem load_90 (w : World) (g : Nat) (h : rowOk 8 (w.row g) = true) : (loadR 90 (.pointer (some ⟨g, 0, none⟩))).run Try.prog w = .ok (rowV (w.row g)) w :=
  run_loadR_row w Try.underlying90 rfl (by kernel_rfl) h
@[go_sem high] theorem store_90 (w : World) (g : Nat) (x0 : ByteArray) (x1 : ByteArray) (x2 : ByteArray) (x3 : ByteArray) (x4 : ByteArray) (x5 : ByteArray) (x6 : ByteArray) (x7 : ByteArray) (h : rowOkW 8 (w.row g) = true) : (storeR 90 (.pointer (some ⟨g, 0, none⟩)) (.agg #[.string x0, .string x1, .string x2, .string x3, .string x4, .string x5, .string x6, .string x7])).run Try.prog w = .ok () (w.setRow g #[.string x0, .string x1, .string x2, .string x3, .string x4, .string x5, .string x6, .string x7]) :=
  run_storeR_row w (by kernel_rfl) rfl h
@[go_sem high] theorem alloc_90 (w : World) : (allocR 90).run Try.prog w = .ok (.pointer (some ⟨w.heap.size, 0, none⟩)) (w.alloc (.cells #[.string ⟨#[]⟩, .string ⟨#[]⟩, .string ⟨#[]⟩, .string ⟨#[]⟩, .string ⟨#[]⟩, .string ⟨#[]⟩, .string ⟨#[]⟩, .string ⟨#[]⟩] 90)) := by kernel_rfl
theorem ret_90 {fn : Func} {a : Act} {w : World} {R : Ending → World → Prop} {p : Tmp} {g : Nat} (h : fn.results = #[.cell p 90]) (hp : a.tmps.getD p undef = .pointer (some ⟨g, 0, none⟩)) (hrow : rowOk 8 (w.row g) = true) (hdf : a.defers = []) (hR : R (.returned (rowV (w.row g))) w) : bodyPost Try.prog fn R .ret a w :=
  ret_cell h hp Try.underlying90 rfl (by kernel_rfl) hrow hdf hR
theorem rett_90 {fn : Func} {a : Act} {w : World} {R : Ending → World → Prop} {p q : Tmp} {g : Nat} (h : fn.results = #[.cell p 90, .tmp q]) (hp : a.tmps.getD p undef = .pointer (some ⟨g, 0, none⟩)) (hrow : rowOk 8 (w.row g) = true) (hdf : a.defers = []) (hR : R (.returned (.tuple #[rowV (w.row g), a.tmps.getD q undef])) w) : bodyPost Try.prog fn R .ret a w :=
  ret_cell_tmp h hp Try.underlying90 rfl (by kernel_rfl) hrow hdf hR
set_option maxRecDepth 100000 in
theorem eq_90 (d : Nat) (w : World) (x0 : ByteArray) (x1 : ByteArray) (x2 : ByteArray) (x3 : ByteArray) (x4 : ByteArray) (x5 : ByteArray) (x6 : ByteArray) (x7 : ByteArray) (y0 : ByteArray) (y1 : ByteArray) (y2 : ByteArray) (y3 : ByteArray) (y4 : ByteArray) (y5 : ByteArray) (y6 : ByteArray) (y7 : ByteArray) : (Op.equalIn (d + 2) 90 (.agg #[.string x0, .string x1, .string x2, .string x3, .string x4, .string x5, .string x6, .string x7]) (.agg #[.string y0, .string y1, .string y2, .string y3, .string y4, .string y5, .string y6, .string y7])).run Try.prog w = .ok (x0.toList == y0.toList && (x1.toList == y1.toList && (x2.toList == y2.toList && (x3.toList == y3.toList && (x4.toList == y4.toList && (x5.toList == y5.toList && (x6.toList == y6.toList && (x7.toList == y7.toList)))))))) w := by
  rw [show d + 2 = (d + 1) + 1 from rfl, Op.equalIn]
  simp only [Sem.run_bind, run_underlying Try.underlying90, Result.andThen_ok]
  simp only [Std.Legacy.Range.forIn_eq_forIn_range', Std.Legacy.Range.size, Nat.sub_zero, Nat.add_sub_cancel, Nat.div_one, List.range'_succ, List.range'_zero, List.forIn_cons, List.forIn_nil]
  simp [go_sem, eq_27, eq_88]
  by_cases h0 : x0.toList = y0.toList
  case neg => simp [h0]
  by_cases h1 : x1.toList = y1.toList
  case neg => simp [h1, h0]
  by_cases h2 : x2.toList = y2.toList
  case neg => simp [h2, h0, h1]
  by_cases h3 : x3.toList = y3.toList
  case neg => simp [h3, h0, h1, h2]
  by_cases h4 : x4.toList = y4.toList
  case neg => simp [h4, h0, h1, h2, h3]
  by_cases h5 : x5.toList = y5.toList
  case neg => simp [h5, h0, h1, h2, h3, h4]
  by_cases h6 : x6.toList = y6.toList
  case neg => simp [h6, h0, h1, h2, h3, h4, h5]
  by_cases h7 : x7.toList = y7.toList
  case neg => simp [h7, h0, h1, h2, h3, h4, h5, h6]
  simp [h0, h1, h2, h3, h4, h5, h6, h7]
@[go_sem high] theorem eq_90_10000 (w : World) (x0 : ByteArray) (x1 : ByteArray) (x2 : ByteArray) (x3 : ByteArray) (x4 : ByteArray) (x5 : ByteArray) (x6 : ByteArray) (x7 : ByteArray) (y0 : ByteArray) (y1 : ByteArray) (y2 : ByteArray) (y3 : ByteArray) (y4 : ByteArray) (y5 : ByteArray) (y6 : ByteArray) (y7 : ByteArray) : (Op.equalIn 10000 90 (.agg #[.string x0, .string x1, .string x2, .string x3, .string x4, .string x5, .string x6, .string x7]) (.agg #[.string y0, .string y1, .string y2, .string y3, .string y4, .string y5, .string y6, .string y7])).run Try.prog w = .ok (x0.toList == y0.toList && (x1.toList == y1.toList && (x2.toList == y2.toList && (x3.toList == y3.toList && (x4.toList == y4.toList && (x5.toList == y5.toList && (x6.toList == y6.toList && (x7.toList == y7.toList)))))))) w := eq_90 9998 w x0 x1 x2 x3 x4 x5 x6 x7 y0 y1 y2 y3 y4 y5 y6 y7
@[go_sem high] theorem eq_90_9999 (w : World) (x0 : ByteArray) (x1 : ByteArray) (x2 : ByteArray) (x3 : ByteArray) (x4 : ByteArray) (x5 : ByteArray) (x6 : ByteArray) (x7 : ByteArray) (y0 : ByteArray) (y1 : ByteArray) (y2 : ByteArray) (y3 : ByteArray) (y4 : ByteArray) (y5 : ByteArray) (y6 : ByteArray) (y7 : ByteArray) : (Op.equalIn 9999 90 (.agg #[.string x0, .string x1, .string x2, .string x3, .string x4, .string x5, .string x6, .string x7]) (.agg #[.string y0, .string y1, .string y2, .string y3, .string y4, .string y5, .string y6, .string y7])).run Try.prog w = .ok (x0.toList == y0.toList && (x1.toList == y1.toList && (x2.toList == y2.toList && (x3.toList == y3.toList && (x4.toList == y4.toList && (x5.toList == y5.toList && (x6.toList == y6.toList && (x7.toList == y7.toList)))))))) w := eq_90 9997 w x0 x1 x2 x3 x4 x5 x6 x7 y0 y1 y2 y3 y4 y5 y6 y7
@[go_sem high] theorem eq_90_9998 (w : World) (x0 : ByteArray) (x1 : ByteArray) (x2 : ByteArray) (x3 : ByteArray) (x4 : ByteArray) (x5 : ByteArray) (x6 : ByteArray) (x7 : ByteArray) (y0 : ByteArray) (y1 : ByteArray) (y2 : ByteArray) (y3 : ByteArray) (y4 : ByteArray) (y5 : ByteArray) (y6 : ByteArray) (y7 : ByteArray) : (Op.equalIn 9998 90 (.agg #[.string x0, .string x1, .string x2, .string x3, .string x4, .string x5, .string x6, .string x7]) (.agg #[.string y0, .string y1, .string y2, .string y3, .string y4, .string y5, .string y6, .string y7])).run Try.prog w = .ok (x0.toList == y0.toList && (x1.toList == y1.toList && (x2.toList == y2.toList && (x3.toList == y3.toList && (x4.toList == y4.toList && (x5.toList == y5.toList && (x6.toList == y6.toList && (x7.toList == y7.toList)))))))) w := eq_90 9996 w x0 x1 x2 x3 x4 x5 x6 x7 y0 y1 y2 y3 y4 y5 y6 y7

/-- [3]int -/
@[go_sem high] theorem load_93 (w : World) (g : Nat) (h : rowOk 3 (w.row g) = true) : (loadR 93 (.pointer (some ⟨g, 0, none⟩))).run Try.prog w = .ok (rowV (w.row g)) w :=
  run_loadR_row w Try.underlying93 rfl (by kernel_rfl) h
@[go_sem high] theorem store_93 (w : World) (g : Nat) (x0 : Int) (x1 : Int) (x2 : Int) (h : rowOkW 3 (w.row g) = true) : (storeR 93 (.pointer (some ⟨g, 0, none⟩)) (.agg #[.int .i64 x0, .int .i64 x1, .int .i64 x2])).run Try.prog w = .ok () (w.setRow g #[.int .i64 x0, .int .i64 x1, .int .i64 x2]) :=
  run_storeR_row w (by kernel_rfl) rfl h
@[go_sem high] theorem alloc_93 (w : World) : (allocR 93).run Try.prog w = .ok (.pointer (some ⟨w.heap.size, 0, none⟩)) (w.alloc (.cells #[.int .i64 0, .int .i64 0, .int .i64 0] 93)) := by kernel_rfl
theorem ret_93 {fn : Func} {a : Act} {w : World} {R : Ending → World → Prop} {p : Tmp} {g : Nat} (h : fn.results = #[.cell p 93]) (hp : a.tmps.getD p undef = .pointer (some ⟨g, 0, none⟩)) (hrow : rowOk 3 (w.row g) = true) (hdf : a.defers = []) (hR : R (.returned (rowV (w.row g))) w) : bodyPost Try.prog fn R .ret a w :=
  ret_cell h hp Try.underlying93 rfl (by kernel_rfl) hrow hdf hR
theorem rett_93 {fn : Func} {a : Act} {w : World} {R : Ending → World → Prop} {p q : Tmp} {g : Nat} (h : fn.results = #[.cell p 93, .tmp q]) (hp : a.tmps.getD p undef = .pointer (some ⟨g, 0, none⟩)) (hrow : rowOk 3 (w.row g) = true) (hdf : a.defers = []) (hR : R (.returned (.tuple #[rowV (w.row g), a.tmps.getD q undef])) w) : bodyPost Try.prog fn R .ret a w :=
  ret_cell_tmp h hp Try.underlying93 rfl (by kernel_rfl) hrow hdf hR
set_option maxRecDepth 100000 in
theorem eq_93 (d : Nat) (w : World) (x0 : Int) (x1 : Int) (x2 : Int) (y0 : Int) (y1 : Int) (y2 : Int) : (Op.equalIn (d + 2) 93 (.agg #[.int .i64 x0, .int .i64 x1, .int .i64 x2]) (.agg #[.int .i64 y0, .int .i64 y1, .int .i64 y2])).run Try.prog w = .ok (x0 == y0 && (x1 == y1 && (x2 == y2))) w := by
  rw [show d + 2 = (d + 1) + 1 from rfl, Op.equalIn]
  simp only [Sem.run_bind, run_underlying Try.underlying93, Result.andThen_ok]
  simp only [Std.Legacy.Range.forIn_eq_forIn_range', Std.Legacy.Range.size, Nat.sub_zero, Nat.add_sub_cancel, Nat.div_one, List.range'_succ, List.range'_zero, List.forIn_cons, List.forIn_nil]
  simp [go_sem, eq_27, eq_88, eq_90]
  by_cases h0 : x0 = y0
  case neg => simp [h0]
  by_cases h1 : x1 = y1
  case neg => simp [h1, h0]
  by_cases h2 : x2 = y2
  case neg => simp [h2, h0, h1]
  simp [h0, h1, h2]
@[go_sem high] theorem eq_93_10000 (w : World) (x0 : Int) (x1 : Int) (x2 : Int) (y0 : Int) (y1 : Int) (y2 : Int) : (Op.equalIn 10000 93 (.agg #[.int .i64 x0, .int .i64 x1, .int .i64 x2]) (.agg #[.int .i64 y0, .int .i64 y1, .int .i64 y2])).run Try.prog w = .ok (x0 == y0 && (x1 == y1 && (x2 == y2))) w := eq_93 9998 w x0 x1 x2 y0 y1 y2
@[go_sem high] theorem eq_93_9999 (w : World) (x0 : Int) (x1 : Int) (x2 : Int) (y0 : Int) (y1 : Int) (y2 : Int) : (Op.equalIn 9999 93 (.agg #[.int .i64 x0, .int .i64 x1, .int .i64 x2]) (.agg #[.int .i64 y0, .int .i64 y1, .int .i64 y2])).run Try.prog w = .ok (x0 == y0 && (x1 == y1 && (x2 == y2))) w := eq_93 9997 w x0 x1 x2 y0 y1 y2
@[go_sem high] theorem eq_93_9998 (w : World) (x0 : Int) (x1 : Int) (x2 : Int) (y0 : Int) (y1 : Int) (y2 : Int) : (Op.equalIn 9998 93 (.agg #[.int .i64 x0, .int .i64 x1, .int .i64 x2]) (.agg #[.int .i64 y0, .int .i64 y1, .int .i64 y2])).run Try.prog w = .ok (x0 == y0 && (x1 == y1 && (x2 == y2))) w := eq_93 9996 w x0 x1 x2 y0 y1 y2

/-- jalousieref1.W -/
@[go_sem high] theorem load_99 (w : World) (g : Nat) (h : rowOk 2 (w.row g) = true) : (loadR 99 (.pointer (some ⟨g, 0, none⟩))).run Try.prog w = .ok (rowV (w.row g)) w :=
  run_loadR_row w Try.underlying99 rfl (by kernel_rfl) h
@[go_sem high] theorem store_99 (w : World) (g : Nat) (x0 : Int) (x1 : Int) (h : rowOkW 2 (w.row g) = true) : (storeR 99 (.pointer (some ⟨g, 0, none⟩)) (.agg #[.int .u64 x0, .int .u64 x1])).run Try.prog w = .ok () (w.setRow g #[.int .u64 x0, .int .u64 x1]) :=
  run_storeR_row w (by kernel_rfl) rfl h
@[go_sem high] theorem alloc_99 (w : World) : (allocR 99).run Try.prog w = .ok (.pointer (some ⟨w.heap.size, 0, none⟩)) (w.alloc (.cells #[.int .u64 0, .int .u64 0] 99)) := by kernel_rfl
theorem ret_99 {fn : Func} {a : Act} {w : World} {R : Ending → World → Prop} {p : Tmp} {g : Nat} (h : fn.results = #[.cell p 99]) (hp : a.tmps.getD p undef = .pointer (some ⟨g, 0, none⟩)) (hrow : rowOk 2 (w.row g) = true) (hdf : a.defers = []) (hR : R (.returned (rowV (w.row g))) w) : bodyPost Try.prog fn R .ret a w :=
  ret_cell h hp Try.underlying99 rfl (by kernel_rfl) hrow hdf hR
theorem rett_99 {fn : Func} {a : Act} {w : World} {R : Ending → World → Prop} {p q : Tmp} {g : Nat} (h : fn.results = #[.cell p 99, .tmp q]) (hp : a.tmps.getD p undef = .pointer (some ⟨g, 0, none⟩)) (hrow : rowOk 2 (w.row g) = true) (hdf : a.defers = []) (hR : R (.returned (.tuple #[rowV (w.row g), a.tmps.getD q undef])) w) : bodyPost Try.prog fn R .ret a w :=
  ret_cell_tmp h hp Try.underlying99 rfl (by kernel_rfl) hrow hdf hR
set_option maxRecDepth 100000 in
theorem eq_99 (d : Nat) (w : World) (x0 : Int) (x1 : Int) (y0 : Int) (y1 : Int) : (Op.equalIn (d + 3) 99 (.agg #[.int .u64 x0, .int .u64 x1]) (.agg #[.int .u64 y0, .int .u64 y1])).run Try.prog w = .ok (x0 == y0 && (x1 == y1)) w := by
  rw [show d + 3 = (d + 2) + 1 from rfl, run_equalIn_agg w _ 99 _ _ (by kernel_rfl) (by kernel_rfl)]
  simp only [Program.fieldsOf, Try.underlying99]
  simp [go_sem, eq_27, eq_88, eq_90, eq_93]
  by_cases h0 : x0 = y0
  case neg => simp [h0]
  by_cases h1 : x1 = y1
  case neg => simp [h1, h0]
  simp [h0, h1]
@[go_sem high] theorem eq_99_10000 (w : World) (x0 : Int) (x1 : Int) (y0 : Int) (y1 : Int) : (Op.equalIn 10000 99 (.agg #[.int .u64 x0, .int .u64 x1]) (.agg #[.int .u64 y0, .int .u64 y1])).run Try.prog w = .ok (x0 == y0 && (x1 == y1)) w := eq_99 9997 w x0 x1 y0 y1
@[go_sem high] theorem eq_99_9999 (w : World) (x0 : Int) (x1 : Int) (y0 : Int) (y1 : Int) : (Op.equalIn 9999 99 (.agg #[.int .u64 x0, .int .u64 x1]) (.agg #[.int .u64 y0, .int .u64 y1])).run Try.prog w = .ok (x0 == y0 && (x1 == y1)) w := eq_99 9996 w x0 x1 y0 y1
@[go_sem high] theorem eq_99_9998 (w : World) (x0 : Int) (x1 : Int) (y0 : Int) (y1 : Int) : (Op.equalIn 9998 99 (.agg #[.int .u64 x0, .int .u64 x1]) (.agg #[.int .u64 y0, .int .u64 y1])).run Try.prog w = .ok (x0 == y0 && (x1 == y1)) w := eq_99 9995 w x0 x1 y0 y1

@[go_sem high] theorem build_23_z (w : World) : (buildR 23 []).run Try.prog w = .ok (.agg #[.int .i64 0, .int .i64 0]) w := run_buildR_of w (by kernel_rfl)
@[go_sem high] theorem build_23_0_1 (a0_0 : Int) (a1_0 : Int) (w : World) : (buildR 23 [(0, .int .i64 a0_0), (1, .int .i64 a1_0)]).run Try.prog w = .ok (.agg #[.int .i64 a0_0, .int .i64 a1_0]) w := run_buildR_of w (by kernel_rfl)
@[go_sem high] theorem build_23_1 (a1_0 : Int) (w : World) : (buildR 23 [(1, .int .i64 a1_0)]).run Try.prog w = .ok (.agg #[.int .i64 0, .int .i64 a1_0]) w := run_buildR_of w (by kernel_rfl)
@[go_sem high] theorem build_26_0_1_2 (a0_0 : Int) (a1_0 : Int) (a1_1 : Int) (a2_0 : Int) (w : World) : (buildR 26 [(0, .int .i64 a0_0), (1, .agg #[.int .i64 a1_0, .int .i64 a1_1]), (2, .int .i64 a2_0)]).run Try.prog w = .ok (.agg #[.int .i64 a0_0, .int .i64 a1_0, .int .i64 a1_1, .int .i64 a2_0, .slice none 0 0]) w := run_buildR_of w (by kernel_rfl)
@[go_sem high] theorem build_26_0_3 (a0_0 : Int) (a3_0p : Option Addr) (a3_0l a3_0c : Nat) (w : World) : (buildR 26 [(0, .int .i64 a0_0), (3, .slice a3_0p a3_0l a3_0c)]).run Try.prog w = .ok (.agg #[.int .i64 a0_0, .int .i64 0, .int .i64 0, .int .i64 0, .slice a3_0p a3_0l a3_0c]) w := run_buildR_of w (by kernel_rfl)
@[go_sem high] theorem build_30_z (w : World) : (buildR 30 []).run Try.prog w = .ok (.agg #[.int .i64 0, .int .i64 0, .int .i64 0, .int .i64 0, .int .i64 0, .int .i64 0, .int .i64 0, .int .i64 0, .int .i64 0, .int .i64 0, .int .i64 0, .int .i64 0, .int .i64 0, .int .i64 0, .slice none 0 0]) w := run_buildR_of w (by kernel_rfl)
@[go_sem high] theorem build_30_0_1 (a0_0 : Int) (a0_1 : Int) (a0_2 : Int) (a0_3 : Int) (a0_4 : Int) (a0_5 : Int) (a0_6 : Int) (a0_7 : Int) (a0_8 : Int) (a0_9 : Int) (a0_10 : Int) (a0_11 : Int) (a0_12 : Int) (a0_13 : Int) (a1_0p : Option Addr) (a1_0l a1_0c : Nat) (w : World) : (buildR 30 [(0, .agg #[.int .i64 a0_0, .int .i64 a0_1, .int .i64 a0_2, .int .i64 a0_3, .int .i64 a0_4, .int .i64 a0_5, .int .i64 a0_6, .int .i64 a0_7, .int .i64 a0_8, .int .i64 a0_9, .int .i64 a0_10, .int .i64 a0_11, .int .i64 a0_12, .int .i64 a0_13]), (1, .slice a1_0p a1_0l a1_0c)]).run Try.prog w = .ok (.agg #[.int .i64 a0_0, .int .i64 a0_1, .int .i64 a0_2, .int .i64 a0_3, .int .i64 a0_4, .int .i64 a0_5, .int .i64 a0_6, .int .i64 a0_7, .int .i64 a0_8, .int .i64 a0_9, .int .i64 a0_10, .int .i64 a0_11, .int .i64 a0_12, .int .i64 a0_13, .slice a1_0p a1_0l a1_0c]) w := run_buildR_of w (by kernel_rfl)
@[go_sem high] theorem build_58_z (w : World) : (buildR 58 []).run Try.prog w = .ok (.agg #[.int .i64 0, .int .i64 0, .int .i64 0, .int .i64 0, .int .i64 0, .int .i64 0, .int .i64 0, .int .i64 0, .int .i64 0, .int .i64 0, .int .i64 0, .int .i64 0]) w := run_buildR_of w (by kernel_rfl)
@[go_sem high] theorem build_58_0 (a0_0 : Int) (a0_1 : Int) (w : World) : (buildR 58 [(0, .agg #[.int .i64 a0_0, .int .i64 a0_1])]).run Try.prog w = .ok (.agg #[.int .i64 a0_0, .int .i64 a0_1, .int .i64 0, .int .i64 0, .int .i64 0, .int .i64 0, .int .i64 0, .int .i64 0, .int .i64 0, .int .i64 0, .int .i64 0, .int .i64 0]) w := run_buildR_of w (by kernel_rfl)
@[go_sem high] theorem build_76_0 (a0_0 : Bool) (w : World) : (buildR 76 [(0, .bool a0_0)]).run Try.prog w = .ok (.agg #[.bool a0_0, .slice none 0 0]) w := run_buildR_of w (by kernel_rfl)
@[go_sem high] theorem build_76_0_1 (a0_0 : Bool) (a1_0p : Option Addr) (a1_0l a1_0c : Nat) (w : World) : (buildR 76 [(0, .bool a0_0), (1, .slice a1_0p a1_0l a1_0c)]).run Try.prog w = .ok (.agg #[.bool a0_0, .slice a1_0p a1_0l a1_0c]) w := run_buildR_of w (by kernel_rfl)
@[go_sem high] theorem build_88_0_1_2_3 (a0_0 : Int) (a0_1 : Int) (a1_0 : Int) (a1_1 : Int) (a2_0 : Int) (a2_1 : Int) (a3_0 : Int) (a3_1 : Int) (w : World) : (buildR 88 [(0, .agg #[.int .i64 a0_0, .int .i64 a0_1]), (1, .agg #[.int .i64 a1_0, .int .i64 a1_1]), (2, .agg #[.int .i64 a2_0, .int .i64 a2_1]), (3, .agg #[.int .i64 a3_0, .int .i64 a3_1])]).run Try.prog w = .ok (.agg #[.int .i64 a0_0, .int .i64 a0_1, .int .i64 a1_0, .int .i64 a1_1, .int .i64 a2_0, .int .i64 a2_1, .int .i64 a3_0, .int .i64 a3_1]) w := run_buildR_of w (by kernel_rfl)
@[go_sem high] theorem build_90_0_1_2_3_4_5_6_7 (a0_0 : ByteArray) (a1_0 : ByteArray) (a2_0 : ByteArray) (a3_0 : ByteArray) (a4_0 : ByteArray) (a5_0 : ByteArray) (a6_0 : ByteArray) (a7_0 : ByteArray) (w : World) : (buildR 90 [(0, .string a0_0), (1, .string a1_0), (2, .string a2_0), (3, .string a3_0), (4, .string a4_0), (5, .string a5_0), (6, .string a6_0), (7, .string a7_0)]).run Try.prog w = .ok (.agg #[.string a0_0, .string a1_0, .string a2_0, .string a3_0, .string a4_0, .string a5_0, .string a6_0, .string a7_0]) w := run_buildR_of w (by kernel_rfl)
@[go_sem high] theorem build_93_z (w : World) : (buildR 93 []).run Try.prog w = .ok (.agg #[.int .i64 0, .int .i64 0, .int .i64 0]) w := run_buildR_of w (by kernel_rfl)
@[go_sem high] theorem build_99_z (w : World) : (buildR 99 []).run Try.prog w = .ok (.agg #[.int .u64 0, .int .u64 0]) w := run_buildR_of w (by kernel_rfl)
@[go_sem high] theorem build_99_0_1 (a0_0 : Int) (a1_0 : Int) (w : World) : (buildR 99 [(0, .int .u64 a0_0), (1, .int .u64 a1_0)]).run Try.prog w = .ok (.agg #[.int .u64 a0_0, .int .u64 a1_0]) w := run_buildR_of w (by kernel_rfl)

end Go.Proofs.Ythmicnjigfcljaa

/- LAWS of this program's struct types: a whole row loaded, stored, built, compared. No condition. -/
import Derived.Test.YtkmpnkgelaaebaaDoorProg
import Derived.Test.YtkmpnkgelaaebaaDoorKit
import Derived.Test.YtkmpnkgelaaebaaDoorExec
set_option linter.unusedSimpArgs false
set_option linter.unusedVariables false
namespace Go.Proofs.YtkmpnkgelaaebaaDoor
open Go.RowKit

/-- api.Rat -/
@[go_sem high] theorem load_23 (w : World) (g : Nat) (h : rowOk 2 (w.row g) = true) : (loadR 23 (.pointer (some ⟨g, 0, none⟩))).run Tryd.prog w = .ok (rowV (w.row g)) w :=
  run_loadR_row w Tryd.underlying23 rfl (by kernel_rfl) h
@[go_sem high] theorem store_23 (w : World) (g : Nat) (x0 : Int) (x1 : Int) (h : rowOkW 2 (w.row g) = true) : (storeR 23 (.pointer (some ⟨g, 0, none⟩)) (.agg #[.int .i64 x0, .int .i64 x1])).run Tryd.prog w = .ok () (w.setRow g #[.int .i64 x0, .int .i64 x1]) :=
  run_storeR_row w (by kernel_rfl) rfl h
@[go_sem high] theorem alloc_23 (w : World) : (allocR 23).run Tryd.prog w = .ok (.pointer (some ⟨w.heap.size, 0, none⟩)) (w.alloc (.cells #[.int .i64 0, .int .i64 0] 23)) := by kernel_rfl
theorem ret_23 {fn : Func} {a : Act} {w : World} {R : Ending → World → Prop} {p : Tmp} {g : Nat} (h : fn.results = #[.cell p 23]) (hp : a.tmps.getD p undef = .pointer (some ⟨g, 0, none⟩)) (hrow : rowOk 2 (w.row g) = true) (hdf : a.defers = []) (hR : R (.returned (rowV (w.row g))) w) : bodyPost Tryd.prog fn R .ret a w :=
  ret_cell h hp Tryd.underlying23 rfl (by kernel_rfl) hrow hdf hR
theorem rett_23 {fn : Func} {a : Act} {w : World} {R : Ending → World → Prop} {p q : Tmp} {g : Nat} (h : fn.results = #[.cell p 23, .tmp q]) (hp : a.tmps.getD p undef = .pointer (some ⟨g, 0, none⟩)) (hrow : rowOk 2 (w.row g) = true) (hdf : a.defers = []) (hR : R (.returned (.tuple #[rowV (w.row g), a.tmps.getD q undef])) w) : bodyPost Tryd.prog fn R .ret a w :=
  ret_cell_tmp h hp Tryd.underlying23 rfl (by kernel_rfl) hrow hdf hR
set_option maxRecDepth 100000 in
theorem eq_23 (d : Nat) (w : World) (x0 : Int) (x1 : Int) (y0 : Int) (y1 : Int) : (Op.equalIn (d + 3) 23 (.agg #[.int .i64 x0, .int .i64 x1]) (.agg #[.int .i64 y0, .int .i64 y1])).run Tryd.prog w = .ok (x0 == y0 && (x1 == y1)) w := by
  rw [show d + 3 = (d + 2) + 1 from rfl, run_equalIn_agg w _ 23 _ _ (by kernel_rfl) (by kernel_rfl)]
  simp only [Program.fieldsOf, Tryd.underlying23]
  simp [go_sem]
  by_cases h0 : x0 = y0
  case neg => simp [h0]
  by_cases h1 : x1 = y1
  case neg => simp [h1, h0]
  simp [h0, h1]
@[go_sem high] theorem eq_23_10000 (w : World) (x0 : Int) (x1 : Int) (y0 : Int) (y1 : Int) : (Op.equalIn 10000 23 (.agg #[.int .i64 x0, .int .i64 x1]) (.agg #[.int .i64 y0, .int .i64 y1])).run Tryd.prog w = .ok (x0 == y0 && (x1 == y1)) w := eq_23 9997 w x0 x1 y0 y1
@[go_sem high] theorem eq_23_9999 (w : World) (x0 : Int) (x1 : Int) (y0 : Int) (y1 : Int) : (Op.equalIn 9999 23 (.agg #[.int .i64 x0, .int .i64 x1]) (.agg #[.int .i64 y0, .int .i64 y1])).run Tryd.prog w = .ok (x0 == y0 && (x1 == y1)) w := eq_23 9996 w x0 x1 y0 y1
@[go_sem high] theorem eq_23_9998 (w : World) (x0 : Int) (x1 : Int) (y0 : Int) (y1 : Int) : (Op.equalIn 9998 23 (.agg #[.int .i64 x0, .int .i64 x1]) (.agg #[.int .i64 y0, .int .i64 y1])).run Tryd.prog w = .ok (x0 == y0 && (x1 == y1)) w := eq_23 9995 w x0 x1 y0 y1

/-- api.Env -/
@[go_sem high] theorem load_25 (w : World) (g : Nat) (h : rowOk 13 (w.row g) = true) : (loadR 25 (.pointer (some ⟨g, 0, none⟩))).run Tryd.prog w = .ok (rowV (w.row g)) w :=
  run_loadR_row w Tryd.underlying25 rfl (by kernel_rfl) h
@[go_sem high] theorem store_25 (w : World) (g : Nat) (x0 : Bool) (x1 : Int) (x2 : Int) (x3 : Int) (x4 : Int) (x5 : Int) (x6 : Int) (x7 : Int) (x8 : Int) (x9 : ByteArray) (x10 : ByteArray) (x11 : ByteArray) (x12 : ByteArray) (h : rowOkW 13 (w.row g) = true) : (storeR 25 (.pointer (some ⟨g, 0, none⟩)) (.agg #[.bool x0, .int .i64 x1, .int .i64 x2, .int .i64 x3, .int .i64 x4, .int .i64 x5, .int .i64 x6, .int .i64 x7, .int .i64 x8, .string x9, .string x10, .string x11, .string x12])).run Tryd.prog w = .ok () (w.setRow g #[.bool x0, .int .i64 x1, .int .i64 x2, .int .i64 x3, .int .i64 x4, .int .i64 x5, .int .i64 x6, .int .i64 x7, .int .i64 x8, .string x9, .string x10, .string x11, .string x12]) :=
  run_storeR_row w (by kernel_rfl) rfl h
@[go_sem high] theorem alloc_25 (w : World) : (allocR 25).run Tryd.prog w = .ok (.pointer (some ⟨w.heap.size, 0, none⟩)) (w.alloc (.cells #[.bool false, .int .i64 0, .int .i64 0, .int .i64 0, .int .i64 0, .int .i64 0, .int .i64 0, .int .i64 0, .int .i64 0, .string ⟨#[]⟩, .string ⟨#[]⟩, .string ⟨#[]⟩, .string ⟨#[]⟩] 25)) := by kernel_rfl
theorem ret_25 {fn : Func} {a : Act} {w : World} {R : Ending → World → Prop} {p : Tmp} {g : Nat} (h : fn.results = #[.cell p 25]) (hp : a.tmps.getD p undef = .pointer (some ⟨g, 0, none⟩)) (hrow : rowOk 13 (w.row g) = true) (hdf : a.defers = []) (hR : R (.returned (rowV (w.row g))) w) : bodyPost Tryd.prog fn R .ret a w :=
  ret_cell h hp Tryd.underlying25 rfl (by kernel_rfl) hrow hdf hR
theorem rett_25 {fn : Func} {a : Act} {w : World} {R : Ending → World → Prop} {p q : Tmp} {g : Nat} (h : fn.results = #[.cell p 25, .tmp q]) (hp : a.tmps.getD p undef = .pointer (some ⟨g, 0, none⟩)) (hrow : rowOk 13 (w.row g) = true) (hdf : a.defers = []) (hR : R (.returned (.tuple #[rowV (w.row g), a.tmps.getD q undef])) w) : bodyPost Tryd.prog fn R .ret a w :=
  ret_cell_tmp h hp Tryd.underlying25 rfl (by kernel_rfl) hrow hdf hR
set_option maxRecDepth 100000 in
theorem eq_25 (d : Nat) (w : World) (x0 : Bool) (x1 : Int) (x2 : Int) (x3 : Int) (x4 : Int) (x5 : Int) (x6 : Int) (x7 : Int) (x8 : Int) (x9 : ByteArray) (x10 : ByteArray) (x11 : ByteArray) (x12 : ByteArray) (y0 : Bool) (y1 : Int) (y2 : Int) (y3 : Int) (y4 : Int) (y5 : Int) (y6 : Int) (y7 : Int) (y8 : Int) (y9 : ByteArray) (y10 : ByteArray) (y11 : ByteArray) (y12 : ByteArray) : (Op.equalIn (d + 3) 25 (.agg #[.bool x0, .int .i64 x1, .int .i64 x2, .int .i64 x3, .int .i64 x4, .int .i64 x5, .int .i64 x6, .int .i64 x7, .int .i64 x8, .string x9, .string x10, .string x11, .string x12]) (.agg #[.bool y0, .int .i64 y1, .int .i64 y2, .int .i64 y3, .int .i64 y4, .int .i64 y5, .int .i64 y6, .int .i64 y7, .int .i64 y8, .string y9, .string y10, .string y11, .string y12])).run Tryd.prog w = .ok (x0 == y0 && (x1 == y1 && (x2 == y2 && (x3 == y3 && (x4 == y4 && (x5 == y5 && (x6 == y6 && (x7 == y7 && (x8 == y8 && (x9.toList == y9.toList && (x10.toList == y10.toList && (x11.toList == y11.toList && (x12.toList == y12.toList))))))))))))) w := by
  rw [show d + 3 = (d + 2) + 1 from rfl, run_equalIn_agg w _ 25 _ _ (by kernel_rfl) (by kernel_rfl)]
  simp only [Program.fieldsOf, Tryd.underlying25]
  simp [go_sem]
  by_cases h0 : x0 = y0
  case neg => simp [h0]
  by_cases h1 : x1 = y1
  case neg => simp [h1, h0]
  by_cases h2 : x2 = y2
  case neg => simp [h2, h0, h1]
  by_cases h3 : x3 = y3
  case neg => simp [h3, h0, h1, h2]
  by_cases h4 : x4 = y4
  case neg => simp [h4, h0, h1, h2, h3]
  by_cases h5 : x5 = y5
  case neg => simp [h5, h0, h1, h2, h3, h4]
  by_cases h6 : x6 = y6
  case neg => simp [h6, h0, h1, h2, h3, h4, h5]
  by_cases h7 : x7 = y7
  case neg => simp [h7, h0, h1, h2, h3, h4, h5, h6]
  by_cases h8 : x8 = y8
  case neg => simp [h8, h0, h1, h2, h3, h4, h5, h6, h7]
  by_cases h9 : x9.toList = y9.toList
  case neg => simp [h9, h0, h1, h2, h3, h4, h5, h6, h7, h8]
  by_cases h10 : x10.toList = y10.toList
  case neg => simp [h10, h0, h1, h2, h3, h4, h5, h6, h7, h8, h9]
  by_cases h11 : x11.toList = y11.toList
  case neg => simp [h11, h0, h1, h2, h3, h4, h5, h6, h7, h8, h9, h10]
  by_cases h12 : x12.toList = y12.toList
  case neg => simp [h12, h0, h1, h2, h3, h4, h5, h6, h7, h8, h9, h10, h11]
  simp [h0, h1, h2, h3, h4, h5, h6, h7, h8, h9, h10, h11, h12]
@[go_sem high] theorem eq_25_10000 (w : World) (x0 : Bool) (x1 : Int) (x2 : Int) (x3 : Int) (x4 : Int) (x5 : Int) (x6 : Int) (x7 : Int) (x8 : Int) (x9 : ByteArray) (x10 : ByteArray) (x11 : ByteArray) (x12 : ByteArray) (y0 : Bool) (y1 : Int) (y2 : Int) (y3 : Int) (y4 : Int) (y5 : Int) (y6 : Int) (y7 : Int) (y8 : Int) (y9 : ByteArray) (y10 : ByteArray) (y11 : ByteArray) (y12 : ByteArray) : (Op.equalIn 10000 25 (.agg #[.bool x0, .int .i64 x1, .int .i64 x2, .int .i64 x3, .int .i64 x4, .int .i64 x5, .int .i64 x6, .int .i64 x7, .int .i64 x8, .string x9, .string x10, .string x11, .string x12]) (.agg #[.bool y0, .int .i64 y1, .int .i64 y2, .int .i64 y3, .int .i64 y4, .int .i64 y5, .int .i64 y6, .int .i64 y7, .int .i64 y8, .string y9, .string y10, .string y11, .string y12])).run Tryd.prog w = .ok (x0 == y0 && (x1 == y1 && (x2 == y2 && (x3 == y3 && (x4 == y4 && (x5 == y5 && (x6 == y6 && (x7 == y7 && (x8 == y8 && (x9.toList == y9.toList && (x10.toList == y10.toList && (x11.toList == y11.toList && (x12.toList == y12.toList))))))))))))) w := eq_25 9997 w x0 x1 x2 x3 x4 x5 x6 x7 x8 x9 x10 x11 x12 y0 y1 y2 y3 y4 y5 y6 y7 y8 y9 y10 y11 y12
@[go_sem high] theorem eq_25_9999 (w : World) (x0 : Bool) (x1 : Int) (x2 : Int) (x3 : Int) (x4 : Int) (x5 : Int) (x6 : Int) (x7 : Int) (x8 : Int) (x9 : ByteArray) (x10 : ByteArray) (x11 : ByteArray) (x12 : ByteArray) (y0 : Bool) (y1 : Int) (y2 : Int) (y3 : Int) (y4 : Int) (y5 : Int) (y6 : Int) (y7 : Int) (y8 : Int) (y9 : ByteArray) (y10 : ByteArray) (y11 : ByteArray) (y12 : ByteArray) : (Op.equalIn 9999 25 (.agg #[.bool x0, .int .i64 x1, .int .i64 x2, .int .i64 x3, .int .i64 x4, .int .i64 x5, .int .i64 x6, .int .i64 x7, .int .i64 x8, .string x9, .string x10, .string x11, .string x12]) (.agg #[.bool y0, .int .i64 y1, .int .i64 y2, .int .i64 y3, .int .i64 y4, .int .i64 y5, .int .i64 y6, .int .i64 y7, .int .i64 y8, .string y9, .string y10, .string y11, .string y12])).run Tryd.prog w = .ok (x0 == y0 && (x1 == y1 && (x2 == y2 && (x3 == y3 && (x4 == y4 && (x5 == y5 && (x6 == y6 && (x7 == y7 && (x8 == y8 && (x9.toList == y9.toList && (x10.toList == y10.toList && (x11.toList == y11.toList && (x12.toList == y12.toList))))))))))))) w := eq_25 9996 w x0 x1 x2 x3 x4 x5 x6 x7 x8 x9 x10 x11 x12 y0 y1 y2 y3 y4 y5 y6 y7 y8 y9 y10 y11 y12
@[go_sem high] theorem eq_25_9998 (w : World) (x0 : Bool) (x1 : Int) (x2 : Int) (x3 : Int) (x4 : Int) (x5 : Int) (x6 : Int) (x7 : Int) (x8 : Int) (x9 : ByteArray) (x10 : ByteArray) (x11 : ByteArray) (x12 : ByteArray) (y0 : Bool) (y1 : Int) (y2 : Int) (y3 : Int) (y4 : Int) (y5 : Int) (y6 : Int) (y7 : Int) (y8 : Int) (y9 : ByteArray) (y10 : ByteArray) (y11 : ByteArray) (y12 : ByteArray) : (Op.equalIn 9998 25 (.agg #[.bool x0, .int .i64 x1, .int .i64 x2, .int .i64 x3, .int .i64 x4, .int .i64 x5, .int .i64 x6, .int .i64 x7, .int .i64 x8, .string x9, .string x10, .string x11, .string x12]) (.agg #[.bool y0, .int .i64 y1, .int .i64 y2, .int .i64 y3, .int .i64 y4, .int .i64 y5, .int .i64 y6, .int .i64 y7, .int .i64 y8, .string y9, .string y10, .string y11, .string y12])).run Tryd.prog w = .ok (x0 == y0 && (x1 == y1 && (x2 == y2 && (x3 == y3 && (x4 == y4 && (x5 == y5 && (x6 == y6 && (x7 == y7 && (x8 == y8 && (x9.toList == y9.toList && (x10.toList == y10.toList && (x11.toList == y11.toList && (x12.toList == y12.toList))))))))))))) w := eq_25 9995 w x0 x1 x2 x3 x4 x5 x6 x7 x8 x9 x10 x11 x12 y0 y1 y2 y3 y4 y5 y6 y7 y8 y9 y10 y11 y12

/-- api.Box -/
@[go_sem high] theorem load_28 (w : World) (g : Nat) (h : rowOk 6 (w.row g) = true) : (loadR 28 (.pointer (some ⟨g, 0, none⟩))).run Tryd.prog w = .ok (rowV (w.row g)) w :=
  run_loadR_row w Tryd.underlying28 rfl (by kernel_rfl) h
@[go_sem high] theorem store_28 (w : World) (g : Nat) (x0 : Int) (x1 : ByteArray) (x2 : Int) (x3 : Int) (x4 : Int) (x5 : Int) (h : rowOkW 6 (w.row g) = true) : (storeR 28 (.pointer (some ⟨g, 0, none⟩)) (.agg #[.int .i64 x0, .string x1, .int .i64 x2, .int .i64 x3, .int .i64 x4, .int .i64 x5])).run Tryd.prog w = .ok () (w.setRow g #[.int .i64 x0, .string x1, .int .i64 x2, .int .i64 x3, .int .i64 x4, .int .i64 x5]) :=
  run_storeR_row w (by kernel_rfl) rfl h
@[go_sem high] theorem alloc_28 (w : World) : (allocR 28).run Tryd.prog w = .ok (.pointer (some ⟨w.heap.size, 0, none⟩)) (w.alloc (.cells #[.int .i64 0, .string ⟨#[]⟩, .int .i64 0, .int .i64 0, .int .i64 0, .int .i64 0] 28)) := by kernel_rfl
theorem ret_28 {fn : Func} {a : Act} {w : World} {R : Ending → World → Prop} {p : Tmp} {g : Nat} (h : fn.results = #[.cell p 28]) (hp : a.tmps.getD p undef = .pointer (some ⟨g, 0, none⟩)) (hrow : rowOk 6 (w.row g) = true) (hdf : a.defers = []) (hR : R (.returned (rowV (w.row g))) w) : bodyPost Tryd.prog fn R .ret a w :=
  ret_cell h hp Tryd.underlying28 rfl (by kernel_rfl) hrow hdf hR
theorem rett_28 {fn : Func} {a : Act} {w : World} {R : Ending → World → Prop} {p q : Tmp} {g : Nat} (h : fn.results = #[.cell p 28, .tmp q]) (hp : a.tmps.getD p undef = .pointer (some ⟨g, 0, none⟩)) (hrow : rowOk 6 (w.row g) = true) (hdf : a.defers = []) (hR : R (.returned (.tuple #[rowV (w.row g), a.tmps.getD q undef])) w) : bodyPost Tryd.prog fn R .ret a w :=
  ret_cell_tmp h hp Tryd.underlying28 rfl (by kernel_rfl) hrow hdf hR
set_option maxRecDepth 100000 in
theorem eq_28 (d : Nat) (w : World) (x0 : Int) (x1 : ByteArray) (x2 : Int) (x3 : Int) (x4 : Int) (x5 : Int) (y0 : Int) (y1 : ByteArray) (y2 : Int) (y3 : Int) (y4 : Int) (y5 : Int) : (Op.equalIn (d + 3) 28 (.agg #[.int .i64 x0, .string x1, .int .i64 x2, .int .i64 x3, .int .i64 x4, .int .i64 x5]) (.agg #[.int .i64 y0, .string y1, .int .i64 y2, .int .i64 y3, .int .i64 y4, .int .i64 y5])).run Tryd.prog w = .ok (x0 == y0 && (x1.toList == y1.toList && (x2 == y2 && (x3 == y3 && (x4 == y4 && (x5 == y5)))))) w := by
  rw [show d + 3 = (d + 2) + 1 from rfl, run_equalIn_agg w _ 28 _ _ (by kernel_rfl) (by kernel_rfl)]
  simp only [Program.fieldsOf, Tryd.underlying28]
  simp [go_sem]
  by_cases h0 : x0 = y0
  case neg => simp [h0]
  by_cases h1 : x1.toList = y1.toList
  case neg => simp [h1, h0]
  by_cases h2 : x2 = y2
  case neg => simp [h2, h0, h1]
  by_cases h3 : x3 = y3
  case neg => simp [h3, h0, h1, h2]
  by_cases h4 : x4 = y4
  case neg => simp [h4, h0, h1, h2, h3]
  by_cases h5 : x5 = y5
  case neg => simp [h5, h0, h1, h2, h3, h4]
  simp [h0, h1, h2, h3, h4, h5]
@[go_sem high] theorem eq_28_10000 (w : World) (x0 : Int) (x1 : ByteArray) (x2 : Int) (x3 : Int) (x4 : Int) (x5 : Int) (y0 : Int) (y1 : ByteArray) (y2 : Int) (y3 : Int) (y4 : Int) (y5 : Int) : (Op.equalIn 10000 28 (.agg #[.int .i64 x0, .string x1, .int .i64 x2, .int .i64 x3, .int .i64 x4, .int .i64 x5]) (.agg #[.int .i64 y0, .string y1, .int .i64 y2, .int .i64 y3, .int .i64 y4, .int .i64 y5])).run Tryd.prog w = .ok (x0 == y0 && (x1.toList == y1.toList && (x2 == y2 && (x3 == y3 && (x4 == y4 && (x5 == y5)))))) w := eq_28 9997 w x0 x1 x2 x3 x4 x5 y0 y1 y2 y3 y4 y5
@[go_sem high] theorem eq_28_9999 (w : World) (x0 : Int) (x1 : ByteArray) (x2 : Int) (x3 : Int) (x4 : Int) (x5 : Int) (y0 : Int) (y1 : ByteArray) (y2 : Int) (y3 : Int) (y4 : Int) (y5 : Int) : (Op.equalIn 9999 28 (.agg #[.int .i64 x0, .string x1, .int .i64 x2, .int .i64 x3, .int .i64 x4, .int .i64 x5]) (.agg #[.int .i64 y0, .string y1, .int .i64 y2, .int .i64 y3, .int .i64 y4, .int .i64 y5])).run Tryd.prog w = .ok (x0 == y0 && (x1.toList == y1.toList && (x2 == y2 && (x3 == y3 && (x4 == y4 && (x5 == y5)))))) w := eq_28 9996 w x0 x1 x2 x3 x4 x5 y0 y1 y2 y3 y4 y5
@[go_sem high] theorem eq_28_9998 (w : World) (x0 : Int) (x1 : ByteArray) (x2 : Int) (x3 : Int) (x4 : Int) (x5 : Int) (y0 : Int) (y1 : ByteArray) (y2 : Int) (y3 : Int) (y4 : Int) (y5 : Int) : (Op.equalIn 9998 28 (.agg #[.int .i64 x0, .string x1, .int .i64 x2, .int .i64 x3, .int .i64 x4, .int .i64 x5]) (.agg #[.int .i64 y0, .string y1, .int .i64 y2, .int .i64 y3, .int .i64 y4, .int .i64 y5])).run Tryd.prog w = .ok (x0 == y0 && (x1.toList == y1.toList && (x2 == y2 && (x3 == y3 && (x4 == y4 && (x5 == y5)))))) w := eq_28 9995 w x0 x1 x2 x3 x4 x5 y0 y1 y2 y3 y4 y5

/-- api.Op -/
@[go_sem high] theorem load_30 (w : World) (g : Nat) (h : rowOk 18 (w.row g) = true) : (loadR 30 (.pointer (some ⟨g, 0, none⟩))).run Tryd.prog w = .ok (rowV (w.row g)) w :=
  run_loadR_row w Tryd.underlying30 rfl (by kernel_rfl) h
@[go_sem high] theorem store_30 (w : World) (g : Nat) (x0 : Int) (x1 : Int) (x2 : Int) (x3 : Int) (x4 : ByteArray) (x5 : ByteArray) (x6p : Option Addr) (x6l x6c : Nat) (x7 : Int) (x8 : Int) (x9 : Int) (x10 : Int) (x11 : Int) (x12 : ByteArray) (x13 : Int) (x14 : Int) (x15 : Int) (x16 : Int) (x17 : Bool) (h : rowOkW 18 (w.row g) = true) : (storeR 30 (.pointer (some ⟨g, 0, none⟩)) (.agg #[.int .i64 x0, .int .i64 x1, .int .i64 x2, .int .i64 x3, .string x4, .string x5, .slice x6p x6l x6c, .int .i64 x7, .int .i64 x8, .int .i64 x9, .int .i64 x10, .int .i64 x11, .string x12, .int .i64 x13, .int .i64 x14, .int .i64 x15, .int .i64 x16, .bool x17])).run Tryd.prog w = .ok () (w.setRow g #[.int .i64 x0, .int .i64 x1, .int .i64 x2, .int .i64 x3, .string x4, .string x5, .slice x6p x6l x6c, .int .i64 x7, .int .i64 x8, .int .i64 x9, .int .i64 x10, .int .i64 x11, .string x12, .int .i64 x13, .int .i64 x14, .int .i64 x15, .int .i64 x16, .bool x17]) :=
  run_storeR_row w (by kernel_rfl) rfl h
@[go_sem high] theorem alloc_30 (w : World) : (allocR 30).run Tryd.prog w = .ok (.pointer (some ⟨w.heap.size, 0, none⟩)) (w.alloc (.cells #[.int .i64 0, .int .i64 0, .int .i64 0, .int .i64 0, .string ⟨#[]⟩, .string ⟨#[]⟩, .slice none 0 0, .int .i64 0, .int .i64 0, .int .i64 0, .int .i64 0, .int .i64 0, .string ⟨#[]⟩, .int .i64 0, .int .i64 0, .int .i64 0, .int .i64 0, .bool false] 30)) := by kernel_rfl
theorem ret_30 {fn : Func} {a : Act} {w : World} {R : Ending → World → Prop} {p : Tmp} {g : Nat} (h : fn.results = #[.cell p 30]) (hp : a.tmps.getD p undef = .pointer (some ⟨g, 0, none⟩)) (hrow : rowOk 18 (w.row g) = true) (hdf : a.defers = []) (hR : R (.returned (rowV (w.row g))) w) : bodyPost Tryd.prog fn R .ret a w :=
  ret_cell h hp Tryd.underlying30 rfl (by kernel_rfl) hrow hdf hR
theorem rett_30 {fn : Func} {a : Act} {w : World} {R : Ending → World → Prop} {p q : Tmp} {g : Nat} (h : fn.results = #[.cell p 30, .tmp q]) (hp : a.tmps.getD p undef = .pointer (some ⟨g, 0, none⟩)) (hrow : rowOk 18 (w.row g) = true) (hdf : a.defers = []) (hR : R (.returned (.tuple #[rowV (w.row g), a.tmps.getD q undef])) w) : bodyPost Tryd.prog fn R .ret a w :=
  ret_cell_tmp h hp Tryd.underlying30 rfl (by kernel_rfl) hrow hdf hR

/-- [9]string -/
@[go_sem high] theorem load_37 (w : World) (g : Nat) (h : rowOk 9 (w.row g) = true) : (loadR 37 (.pointer (some ⟨g, 0, none⟩))).run Tryd.prog w = .ok (rowV (w.row g)) w :=
  run_loadR_row w Tryd.underlying37 rfl (by kernel_rfl) h
@[go_sem high] theorem store_37 (w : World) (g : Nat) (x0 : ByteArray) (x1 : ByteArray) (x2 : ByteArray) (x3 : ByteArray) (x4 : ByteArray) (x5 : ByteArray) (x6 : ByteArray) (x7 : ByteArray) (x8 : ByteArray) (h : rowOkW 9 (w.row g) = true) : (storeR 37 (.pointer (some ⟨g, 0, none⟩)) (.agg #[.string x0, .string x1, .string x2, .string x3, .string x4, .string x5, .string x6, .string x7, .string x8])).run Tryd.prog w = .ok () (w.setRow g #[.string x0, .string x1, .string x2, .string x3, .string x4, .string x5, .string x6, .string x7, .string x8]) :=
  run_storeR_row w (by kernel_rfl) rfl h
@[go_sem high] theorem alloc_37 (w : World) : (allocR 37).run Tryd.prog w = .ok (.pointer (some ⟨w.heap.size, 0, none⟩)) (w.alloc (.cells #[.string ⟨#[]⟩, .string ⟨#[]⟩, .string ⟨#[]⟩, .string ⟨#[]⟩, .string ⟨#[]⟩, .string ⟨#[]⟩, .string ⟨#[]⟩, .string ⟨#[]⟩, .string ⟨#[]⟩] 37)) := by kernel_rfl
theorem ret_37 {fn : Func} {a : Act} {w : World} {R : Ending → World → Prop} {p : Tmp} {g : Nat} (h : fn.results = #[.cell p 37]) (hp : a.tmps.getD p undef = .pointer (some ⟨g, 0, none⟩)) (hrow : rowOk 9 (w.row g) = true) (hdf : a.defers = []) (hR : R (.returned (rowV (w.row g))) w) : bodyPost Tryd.prog fn R .ret a w :=
  ret_cell h hp Tryd.underlying37 rfl (by kernel_rfl) hrow hdf hR
theorem rett_37 {fn : Func} {a : Act} {w : World} {R : Ending → World → Prop} {p q : Tmp} {g : Nat} (h : fn.results = #[.cell p 37, .tmp q]) (hp : a.tmps.getD p undef = .pointer (some ⟨g, 0, none⟩)) (hrow : rowOk 9 (w.row g) = true) (hdf : a.defers = []) (hR : R (.returned (.tuple #[rowV (w.row g), a.tmps.getD q undef])) w) : bodyPost Tryd.prog fn R .ret a w :=
  ret_cell_tmp h hp Tryd.underlying37 rfl (by kernel_rfl) hrow hdf hR
set_option maxRecDepth 100000 in
theorem eq_37 (d : Nat) (w : World) (x0 : ByteArray) (x1 : ByteArray) (x2 : ByteArray) (x3 : ByteArray) (x4 : ByteArray) (x5 : ByteArray) (x6 : ByteArray) (x7 : ByteArray) (x8 : ByteArray) (y0 : ByteArray) (y1 : ByteArray) (y2 : ByteArray) (y3 : ByteArray) (y4 : ByteArray) (y5 : ByteArray) (y6 : ByteArray) (y7 : ByteArray) (y8 : ByteArray) : (Op.equalIn (d + 2) 37 (.agg #[.string x0, .string x1, .string x2, .string x3, .string x4, .string x5, .string x6, .string x7, .string x8]) (.agg #[.string y0, .string y1, .string y2, .string y3, .string y4, .string y5, .string y6, .string y7, .string y8])).run Tryd.prog w = .ok (x0.toList == y0.toList && (x1.toList == y1.toList && (x2.toList == y2.toList && (x3.toList == y3.toList && (x4.toList == y4.toList && (x5.toList == y5.toList && (x6.toList == y6.toList && (x7.toList == y7.toList && (x8.toList == y8.toList))))))))) w := by
  rw [show d + 2 = (d + 1) + 1 from rfl, Op.equalIn]
  simp only [Sem.run_bind, run_underlying Tryd.underlying37, Result.andThen_ok]
  simp only [Std.Legacy.Range.forIn_eq_forIn_range', Std.Legacy.Range.size, Nat.sub_zero, Nat.add_sub_cancel, Nat.div_one, List.range'_succ, List.range'_zero, List.forIn_cons, List.forIn_nil]
  simp [go_sem]
  by_cases h0 : x0.toList = y0.toList
  case neg => simp [h0]
  by_cases h1 : x1.toList = y1.toList
  case neg => simp [h1, h0]
  by_cases h2 : x2.toList = y2.toList
  case neg => simp [h2, h0, h1]
  by_cases h3 : x3.toList = y3.toList
  case neg => simp [h3, h0, h1, h2]
  by_cases h4 : x4.toList = y4.toList
  case neg => simp [h4, h0, h1, h2, h3]
  by_cases h5 : x5.toList = y5.toList
  case neg => simp [h5, h0, h1, h2, h3, h4]
  by_cases h6 : x6.toList = y6.toList
  case neg => simp [h6, h0, h1, h2, h3, h4, h5]
  by_cases h7 : x7.toList = y7.toList
  case neg => simp [h7, h0, h1, h2, h3, h4, h5, h6]
  by_cases h8 : x8.toList = y8.toList
  case neg => simp [h8, h0, h1, h2, h3, h4, h5, h6, h7]
  simp [h0, h1, h2, h3, h4, h5, h6, h7, h8]
@[go_sem high] theorem eq_37_10000 (w : World) (x0 : ByteArray) (x1 : ByteArray) (x2 : ByteArray) (x3 : ByteArray) (x4 : ByteArray) (x5 : ByteArray) (x6 : ByteArray) (x7 : ByteArray) (x8 : ByteArray) (y0 : ByteArray) (y1 : ByteArray) (y2 : ByteArray) (y3 : ByteArray) (y4 : ByteArray) (y5 : ByteArray) (y6 : ByteArray) (y7 : ByteArray) (y8 : ByteArray) : (Op.equalIn 10000 37 (.agg #[.string x0, .string x1, .string x2, .string x3, .string x4, .string x5, .string x6, .string x7, .string x8]) (.agg #[.string y0, .string y1, .string y2, .string y3, .string y4, .string y5, .string y6, .string y7, .string y8])).run Tryd.prog w = .ok (x0.toList == y0.toList && (x1.toList == y1.toList && (x2.toList == y2.toList && (x3.toList == y3.toList && (x4.toList == y4.toList && (x5.toList == y5.toList && (x6.toList == y6.toList && (x7.toList == y7.toList && (x8.toList == y8.toList))))))))) w := eq_37 9998 w x0 x1 x2 x3 x4 x5 x6 x7 x8 y0 y1 y2 y3 y4 y5 y6 y7 y8
@[go_sem high] theorem eq_37_9999 (w : World) (x0 : ByteArray) (x1 : ByteArray) (x2 : ByteArray) (x3 : ByteArray) (x4 : ByteArray) (x5 : ByteArray) (x6 : ByteArray) (x7 : ByteArray) (x8 : ByteArray) (y0 : ByteArray) (y1 : ByteArray) (y2 : ByteArray) (y3 : ByteArray) (y4 : ByteArray) (y5 : ByteArray) (y6 : ByteArray) (y7 : ByteArray) (y8 : ByteArray) : (Op.equalIn 9999 37 (.agg #[.string x0, .string x1, .string x2, .string x3, .string x4, .string x5, .string x6, .string x7, .string x8]) (.agg #[.string y0, .string y1, .string y2, .string y3, .string y4, .string y5, .string y6, .string y7, .string y8])).run Tryd.prog w = .ok (x0.toList == y0.toList && (x1.toList == y1.toList && (x2.toList == y2.toList && (x3.toList == y3.toList && (x4.toList == y4.toList && (x5.toList == y5.toList && (x6.toList == y6.toList && (x7.toList == y7.toList && (x8.toList == y8.toList))))))))) w := eq_37 9997 w x0 x1 x2 x3 x4 x5 x6 x7 x8 y0 y1 y2 y3 y4 y5 y6 y7 y8
@[go_sem high] theorem eq_37_9998 (w : World) (x0 : ByteArray) (x1 : ByteArray) (x2 : ByteArray) (x3 : ByteArray) (x4 : ByteArray) (x5 : ByteArray) (x6 : ByteArray) (x7 : ByteArray) (x8 : ByteArray) (y0 : ByteArray) (y1 : ByteArray) (y2 : ByteArray) (y3 : ByteArray) (y4 : ByteArray) (y5 : ByteArray) (y6 : ByteArray) (y7 : ByteArray) (y8 : ByteArray) : (Op.equalIn 9998 37 (.agg #[.string x0, .string x1, .string x2, .string x3, .string x4, .string x5, .string x6, .string x7, .string x8]) (.agg #[.string y0, .string y1, .string y2, .string y3, .string y4, .string y5, .string y6, .string y7, .string y8])).run Tryd.prog w = .ok (x0.toList == y0.toList && (x1.toList == y1.toList && (x2.toList == y2.toList && (x3.toList == y3.toList && (x4.toList == y4.toList && (x5.toList == y5.toList && (x6.toList == y6.toList && (x7.toList == y7.toList && (x8.toList == y8.toList))))))))) w := eq_37 9996 w x0 x1 x2 x3 x4 x5 x6 x7 x8 y0 y1 y2 y3 y4 y5 y6 y7 y8

/-- [4]string -/
@[go_sem high] theorem load_49 (w : World) (g : Nat) (h : rowOk 4 (w.row g) = true) : (loadR 49 (.pointer (some ⟨g, 0, none⟩))).run Tryd.prog w = .ok (rowV (w.row g)) w :=
  run_loadR_row w Tryd.underlying49 rfl (by kernel_rfl) h
@[go_sem high] theorem store_49 (w : World) (g : Nat) (x0 : ByteArray) (x1 : ByteArray) (x2 : ByteArray) (x3 : ByteArray) (h : rowOkW 4 (w.row g) = true) : (storeR 49 (.pointer (some ⟨g, 0, none⟩)) (.agg #[.string x0, .string x1, .string x2, .string x3])).run Tryd.prog w = .ok () (w.setRow g #[.string x0, .string x1, .string x2, .string x3]) :=
  run_storeR_row w (by kernel_rfl) rfl h
@[go_sem high] theorem alloc_49 (w : World) : (allocR 49).run Tryd.prog w = .ok (.pointer (some ⟨w.heap.size, 0, none⟩)) (w.alloc (.cells #[.string ⟨#[]⟩, .string ⟨#[]⟩, .string ⟨#[]⟩, .string ⟨#[]⟩] 49)) := by kernel_rfl
theorem ret_49 {fn : Func} {a : Act} {w : World} {R : Ending → World → Prop} {p : Tmp} {g : Nat} (h : fn.results = #[.cell p 49]) (hp : a.tmps.getD p undef = .pointer (some ⟨g, 0, none⟩)) (hrow : rowOk 4 (w.row g) = true) (hdf : a.defers = []) (hR : R (.returned (rowV (w.row g))) w) : bodyPost Tryd.prog fn R .ret a w :=
  ret_cell h hp Tryd.underlying49 rfl (by kernel_rfl) hrow hdf hR
theorem rett_49 {fn : Func} {a : Act} {w : World} {R : Ending → World → Prop} {p q : Tmp} {g : Nat} (h : fn.results = #[.cell p 49, .tmp q]) (hp : a.tmps.getD p undef = .pointer (some ⟨g, 0, none⟩)) (hrow : rowOk 4 (w.row g) = true) (hdf : a.defers = []) (hR : R (.returned (.tuple #[rowV (w.row g), a.tmps.getD q undef])) w) : bodyPost Tryd.prog fn R .ret a w :=
  ret_cell_tmp h hp Tryd.underlying49 rfl (by kernel_rfl) hrow hdf hR
set_option maxRecDepth 100000 in
theorem eq_49 (d : Nat) (w : World) (x0 : ByteArray) (x1 : ByteArray) (x2 : ByteArray) (x3 : ByteArray) (y0 : ByteArray) (y1 : ByteArray) (y2 : ByteArray) (y3 : ByteArray) : (Op.equalIn (d + 2) 49 (.agg #[.string x0, .string x1, .string x2, .string x3]) (.agg #[.string y0, .string y1, .string y2, .string y3])).run Tryd.prog w = .ok (x0.toList == y0.toList && (x1.toList == y1.toList && (x2.toList == y2.toList && (x3.toList == y3.toList)))) w := by
  rw [show d + 2 = (d + 1) + 1 from rfl, Op.equalIn]
  simp only [Sem.run_bind, run_underlying Tryd.underlying49, Result.andThen_ok]
  simp only [Std.Legacy.Range.forIn_eq_forIn_range', Std.Legacy.Range.size, Nat.sub_zero, Nat.add_sub_cancel, Nat.div_one, List.range'_succ, List.range'_zero, List.forIn_cons, List.forIn_nil]
  simp [go_sem, eq_37]
  by_cases h0 : x0.toList = y0.toList
  case neg => simp [h0]
  by_cases h1 : x1.toList = y1.toList
  case neg => simp [h1, h0]
  by_cases h2 : x2.toList = y2.toList
  case neg => simp [h2, h0, h1]
  by_cases h3 : x3.toList = y3.toList
  case neg => simp [h3, h0, h1, h2]
  simp [h0, h1, h2, h3]
@[go_sem high] theorem eq_49_10000 (w : World) (x0 : ByteArray) (x1 : ByteArray) (x2 : ByteArray) (x3 : ByteArray) (y0 : ByteArray) (y1 : ByteArray) (y2 : ByteArray) (y3 : ByteArray) : (Op.equalIn 10000 49 (.agg #[.string x0, .string x1, .string x2, .string x3]) (.agg #[.string y0, .string y1, .string y2, .string y3])).run Tryd.prog w = .ok (x0.toList == y0.toList && (x1.toList == y1.toList && (x2.toList == y2.toList && (x3.toList == y3.toList)))) w := eq_49 9998 w x0 x1 x2 x3 y0 y1 y2 y3
@[go_sem high] theorem eq_49_9999 (w : World) (x0 : ByteArray) (x1 : ByteArray) (x2 : ByteArray) (x3 : ByteArray) (y0 : ByteArray) (y1 : ByteArray) (y2 : ByteArray) (y3 : ByteArray) : (Op.equalIn 9999 49 (.agg #[.string x0, .string x1, .string x2, .string x3]) (.agg #[.string y0, .string y1, .string y2, .string y3])).run Tryd.prog w = .ok (x0.toList == y0.toList && (x1.toList == y1.toList && (x2.toList == y2.toList && (x3.toList == y3.toList)))) w := eq_49 9997 w x0 x1 x2 x3 y0 y1 y2 y3
@[go_sem high] theorem eq_49_9998 (w : World) (x0 : ByteArray) (x1 : ByteArray) (x2 : ByteArray) (x3 : ByteArray) (y0 : ByteArray) (y1 : ByteArray) (y2 : ByteArray) (y3 : ByteArray) : (Op.equalIn 9998 49 (.agg #[.string x0, .string x1, .string x2, .string x3]) (.agg #[.string y0, .string y1, .string y2, .string y3])).run Tryd.prog w = .ok (x0.toList == y0.toList && (x1.toList == y1.toList && (x2.toList == y2.toList && (x3.toList == y3.toList)))) w := eq_49 9996 w x0 x1 x2 x3 y0 y1 y2 y3

@[go_sem high] theorem build_23_z (w : World) : (buildR 23 []).run Tryd.prog w = .ok (.agg #[.int .i64 0, .int .i64 0]) w := run_buildR_of w (by kernel_rfl)
@[go_sem high] theorem build_23_0_1 (a0_0 : Int) (a1_0 : Int) (w : World) : (buildR 23 [(0, .int .i64 a0_0), (1, .int .i64 a1_0)]).run Tryd.prog w = .ok (.agg #[.int .i64 a0_0, .int .i64 a1_0]) w := run_buildR_of w (by kernel_rfl)
@[go_sem high] theorem build_23_1 (a1_0 : Int) (w : World) : (buildR 23 [(1, .int .i64 a1_0)]).run Tryd.prog w = .ok (.agg #[.int .i64 0, .int .i64 a1_0]) w := run_buildR_of w (by kernel_rfl)
@[go_sem high] theorem build_25_z (w : World) : (buildR 25 []).run Tryd.prog w = .ok (.agg #[.bool false, .int .i64 0, .int .i64 0, .int .i64 0, .int .i64 0, .int .i64 0, .int .i64 0, .int .i64 0, .int .i64 0, .string ⟨#[]⟩, .string ⟨#[]⟩, .string ⟨#[]⟩, .string ⟨#[]⟩]) w := run_buildR_of w (by kernel_rfl)
@[go_sem high] theorem build_25_1_2_3_4_5_6_7_8 (a1_0 : Int) (a1_1 : Int) (a2_0 : Int) (a2_1 : Int) (a3_0 : Int) (a3_1 : Int) (a4_0 : Int) (a4_1 : Int) (a5_0 : ByteArray) (a6_0 : ByteArray) (a7_0 : ByteArray) (a8_0 : ByteArray) (w : World) : (buildR 25 [(1, .agg #[.int .i64 a1_0, .int .i64 a1_1]), (2, .agg #[.int .i64 a2_0, .int .i64 a2_1]), (3, .agg #[.int .i64 a3_0, .int .i64 a3_1]), (4, .agg #[.int .i64 a4_0, .int .i64 a4_1]), (5, .string a5_0), (6, .string a6_0), (7, .string a7_0), (8, .string a8_0)]).run Tryd.prog w = .ok (.agg #[.bool false, .int .i64 a1_0, .int .i64 a1_1, .int .i64 a2_0, .int .i64 a2_1, .int .i64 a3_0, .int .i64 a3_1, .int .i64 a4_0, .int .i64 a4_1, .string a5_0, .string a6_0, .string a7_0, .string a8_0]) w := run_buildR_of w (by kernel_rfl)
@[go_sem high] theorem build_37_0_1_2_3_4_5_6_7_8 (a0_0 : ByteArray) (a1_0 : ByteArray) (a2_0 : ByteArray) (a3_0 : ByteArray) (a4_0 : ByteArray) (a5_0 : ByteArray) (a6_0 : ByteArray) (a7_0 : ByteArray) (a8_0 : ByteArray) (w : World) : (buildR 37 [(0, .string a0_0), (1, .string a1_0), (2, .string a2_0), (3, .string a3_0), (4, .string a4_0), (5, .string a5_0), (6, .string a6_0), (7, .string a7_0), (8, .string a8_0)]).run Tryd.prog w = .ok (.agg #[.string a0_0, .string a1_0, .string a2_0, .string a3_0, .string a4_0, .string a5_0, .string a6_0, .string a7_0, .string a8_0]) w := run_buildR_of w (by kernel_rfl)
@[go_sem high] theorem build_49_0_1_2_3 (a0_0 : ByteArray) (a1_0 : ByteArray) (a2_0 : ByteArray) (a3_0 : ByteArray) (w : World) : (buildR 49 [(0, .string a0_0), (1, .string a1_0), (2, .string a2_0), (3, .string a3_0)]).run Tryd.prog w = .ok (.agg #[.string a0_0, .string a1_0, .string a2_0, .string a3_0]) w := run_buildR_of w (by kernel_rfl)

end Go.Proofs.YtkmpnkgelaaebaaDoor

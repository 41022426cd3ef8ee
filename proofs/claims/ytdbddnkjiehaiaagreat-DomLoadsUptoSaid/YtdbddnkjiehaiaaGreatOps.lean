/- LAWS of this program's struct types: a whole row loaded, stored, built, compared. No condition. -/
import Derived.Test.YtdbddnkjiehaiaaGreatProg
import Derived.Test.YtdbddnkjiehaiaaGreatMa
import Derived.Test.YtdbddnkjiehaiaaGreatMf
set_option linter.unusedSimpArgs false
set_option linter.unusedVariables false
namespace Go.Proofs.YtdbddnkjiehaiaaGreat
open Go.RowKit

/-- api.Rat -/
@[go_sem high] theorem load_36 (w : World) (g : Nat) (h : rowOk 2 (w.row g) = true) : (loadR 36 (.pointer (some ⟨g, 0, none⟩))).run Tryz.prog w = .ok (rowV (w.row g)) w :=
  run_loadR_row w Tryz.underlying36 rfl (by kernel_rfl) h
@[go_sem high] theorem store_36 (w : World) (g : Nat) (x0 : Int) (x1 : Int) (h : rowOkW 2 (w.row g) = true) : (storeR 36 (.pointer (some ⟨g, 0, none⟩)) (.agg #[.int .i64 x0, .int .i64 x1])).run Tryz.prog w = .ok () (w.setRow g #[.int .i64 x0, .int .i64 x1]) :=
  run_storeR_row w (by kernel_rfl) rfl h
@[go_sem high] theorem alloc_36 (w : World) : (allocR 36).run Tryz.prog w = .ok (.pointer (some ⟨w.heap.size, 0, none⟩)) (w.alloc (.cells #[.int .i64 0, .int .i64 0] 36)) := by kernel_rfl
theorem ret_36 {fn : Func} {a : Act} {w : World} {R : Ending → World → Prop} {p : Tmp} {g : Nat} (h : fn.results = #[.cell p 36]) (hp : a.tmps.getD p undef = .pointer (some ⟨g, 0, none⟩)) (hrow : rowOk 2 (w.row g) = true) (hdf : a.defers = []) (hR : R (.returned (rowV (w.row g))) w) : bodyPost Tryz.prog fn R .ret a w :=
  ret_cell h hp Tryz.underlying36 rfl (by kernel_rfl) hrow hdf hR
theorem rett_36 {fn : Func} {a : Act} {w : World} {R : Ending → World → Prop} {p q : Tmp} {g : Nat} (h : fn.results = #[.cell p 36, .tmp q]) (hp : a.tmps.getD p undef = .pointer (some ⟨g, 0, none⟩)) (hrow : rowOk 2 (w.row g) = true) (hdf : a.defers = []) (hR : R (.returned (.tuple #[rowV (w.row g), a.tmps.getD q undef])) w) : bodyPost Tryz.prog fn R .ret a w :=
  ret_cell_tmp h hp Tryz.underlying36 rfl (by kernel_rfl) hrow hdf hR
set_option maxRecDepth 100000 in
theorem eq_36 (d : Nat) (w : World) (x0 : Int) (x1 : Int) (y0 : Int) (y1 : Int) : (Op.equalIn (d + 3) 36 (.agg #[.int .i64 x0, .int .i64 x1]) (.agg #[.int .i64 y0, .int .i64 y1])).run Tryz.prog w = .ok (x0 == y0 && (x1 == y1)) w := by
  rw [show d + 3 = (d + 2) + 1 from rfl, run_equalIn_agg w _ 36 _ _ (by kernel_rfl) (by kernel_rfl)]
  simp only [Program.fieldsOf, Tryz.underlying36]
  simp [go_sem]
  by_cases h0 : x0 = y0
  case neg => simp [h0]
  by_cases h1 : x1 = y1
  case neg => simp [h1, h0]
  simp [h0, h1]
@[go_sem high] theorem eq_36_10000 (w : World) (x0 : Int) (x1 : Int) (y0 : Int) (y1 : Int) : (Op.equalIn 10000 36 (.agg #[.int .i64 x0, .int .i64 x1]) (.agg #[.int .i64 y0, .int .i64 y1])).run Tryz.prog w = .ok (x0 == y0 && (x1 == y1)) w := eq_36 9997 w x0 x1 y0 y1
@[go_sem high] theorem eq_36_9999 (w : World) (x0 : Int) (x1 : Int) (y0 : Int) (y1 : Int) : (Op.equalIn 9999 36 (.agg #[.int .i64 x0, .int .i64 x1]) (.agg #[.int .i64 y0, .int .i64 y1])).run Tryz.prog w = .ok (x0 == y0 && (x1 == y1)) w := eq_36 9996 w x0 x1 y0 y1
@[go_sem high] theorem eq_36_9998 (w : World) (x0 : Int) (x1 : Int) (y0 : Int) (y1 : Int) : (Op.equalIn 9998 36 (.agg #[.int .i64 x0, .int .i64 x1]) (.agg #[.int .i64 y0, .int .i64 y1])).run Tryz.prog w = .ok (x0 == y0 && (x1 == y1)) w := eq_36 9995 w x0 x1 y0 y1

/-- api.Box -/
@[go_sem high] theorem load_38 (w : World) (g : Nat) (h : rowOk 6 (w.row g) = true) : (loadR 38 (.pointer (some ⟨g, 0, none⟩))).run Tryz.prog w = .ok (rowV (w.row g)) w :=
  run_loadR_row w Tryz.underlying38 rfl (by kernel_rfl) h
@[go_sem high] theorem store_38 (w : World) (g : Nat) (x0 : Int) (x1 : ByteArray) (x2 : Int) (x3 : Int) (x4 : Int) (x5 : Int) (h : rowOkW 6 (w.row g) = true) : (storeR 38 (.pointer (some ⟨g, 0, none⟩)) (.agg #[.int .i64 x0, .string x1, .int .i64 x2, .int .i64 x3, .int .i64 x4, .int .i64 x5])).run Tryz.prog w = .ok () (w.setRow g #[.int .i64 x0, .string x1, .int .i64 x2, .int .i64 x3, .int .i64 x4, .int .i64 x5]) :=
  run_storeR_row w (by kernel_rfl) rfl h
@[go_sem high] theorem alloc_38 (w : World) : (allocR 38).run Tryz.prog w = .ok (.pointer (some ⟨w.heap.size, 0, none⟩)) (w.alloc (.cells #[.int .i64 0, .string ⟨#[]⟩, .int .i64 0, .int .i64 0, .int .i64 0, .int .i64 0] 38)) := by kernel_rfl
theorem ret_38 {fn : Func} {a : Act} {w : World} {R : Ending → World → Prop} {p : Tmp} {g : Nat} (h : fn.results = #[.cell p 38]) (hp : a.tmps.getD p undef = .pointer (some ⟨g, 0, none⟩)) (hrow : rowOk 6 (w.row g) = true) (hdf : a.defers = []) (hR : R (.returned (rowV (w.row g))) w) : bodyPost Tryz.prog fn R .ret a w :=
  ret_cell h hp Tryz.underlying38 rfl (by kernel_rfl) hrow hdf hR
theorem rett_38 {fn : Func} {a : Act} {w : World} {R : Ending → World → Prop} {p q : Tmp} {g : Nat} (h : fn.results = #[.cell p 38, .tmp q]) (hp : a.tmps.getD p undef = .pointer (some ⟨g, 0, none⟩)) (hrow : rowOk 6 (w.row g) = true) (hdf : a.defers = []) (hR : R (.returned (.tuple #[rowV (w.row g), a.tmps.getD q undef])) w) : bodyPost Tryz.prog fn R .ret a w :=
  ret_cell_tmp h hp Tryz.underlying38 rfl (by kernel_rfl) hrow hdf hR
set_option maxRecDepth 100000 in
theorem eq_38 (d : Nat) (w : World) (x0 : Int) (x1 : ByteArray) (x2 : Int) (x3 : Int) (x4 : Int) (x5 : Int) (y0 : Int) (y1 : ByteArray) (y2 : Int) (y3 : Int) (y4 : Int) (y5 : Int) : (Op.equalIn (d + 3) 38 (.agg #[.int .i64 x0, .string x1, .int .i64 x2, .int .i64 x3, .int .i64 x4, .int .i64 x5]) (.agg #[.int .i64 y0, .string y1, .int .i64 y2, .int .i64 y3, .int .i64 y4, .int .i64 y5])).run Tryz.prog w = .ok (x0 == y0 && (x1.toList == y1.toList && (x2 == y2 && (x3 == y3 && (x4 == y4 && (x5 == y5)))))) w := by
  rw [show d + 3 = (d + 2) + 1 from rfl, run_equalIn_agg w _ 38 _ _ (by kernel_rfl) (by kernel_rfl)]
  simp only [Program.fieldsOf, Tryz.underlying38]
  simp [go_sem]
  by_cases h0 : x0 = y0
  case neg => simp [h0]
  by_cases h1 : x1.toList = y1.toList
  case neg => simp [h1, h0]
  by_cases h2 : x2 = y2
  case neg => simp [h2, h0, h1]
  by_cases h3 : x3 = y3
  case neg => simp [h3, h0, h1, h2]
  by_cases h4 : x4 = y4
  case neg => simp [h4, h0, h1, h2, h3]
  by_cases h5 : x5 = y5
  case neg => simp [h5, h0, h1, h2, h3, h4]
  simp [h0, h1, h2, h3, h4, h5]
@[go_sem high] theorem eq_38_10000 (w : World) (x0 : Int) (x1 : ByteArray) (x2 : Int) (x3 : Int) (x4 : Int) (x5 : Int) (y0 : Int) (y1 : ByteArray) (y2 : Int) (y3 : Int) (y4 : Int) (y5 : Int) : (Op.equalIn 10000 38 (.agg #[.int .i64 x0, .string x1, .int .i64 x2, .int .i64 x3, .int .i64 x4, .int .i64 x5]) (.agg #[.int .i64 y0, .string y1, .int .i64 y2, .int .i64 y3, .int .i64 y4, .int .i64 y5])).run Tryz.prog w = .ok (x0 == y0 && (x1.toList == y1.toList && (x2 == y2 && (x3 == y3 && (x4 == y4 && (x5 == y5)))))) w := eq_38 9997 w x0 x1 x2 x3 x4 x5 y0 y1 y2 y3 y4 y5
@[go_sem high] theorem eq_38_9999 (w : World) (x0 : Int) (x1 : ByteArray) (x2 : Int) (x3 : Int) (x4 : Int) (x5 : Int) (y0 : Int) (y1 : ByteArray) (y2 : Int) (y3 : Int) (y4 : Int) (y5 : Int) : (Op.equalIn 9999 38 (.agg #[.int .i64 x0, .string x1, .int .i64 x2, .int .i64 x3, .int .i64 x4, .int .i64 x5]) (.agg #[.int .i64 y0, .string y1, .int .i64 y2, .int .i64 y3, .int .i64 y4, .int .i64 y5])).run Tryz.prog w = .ok (x0 == y0 && (x1.toList == y1.toList && (x2 == y2 && (x3 == y3 && (x4 == y4 && (x5 == y5)))))) w := eq_38 9996 w x0 x1 x2 x3 x4 x5 y0 y1 y2 y3 y4 y5
@[go_sem high] theorem eq_38_9998 (w : World) (x0 : Int) (x1 : ByteArray) (x2 : Int) (x3 : Int) (x4 : Int) (x5 : Int) (y0 : Int) (y1 : ByteArray) (y2 : Int) (y3 : Int) (y4 : Int) (y5 : Int) : (Op.equalIn 9998 38 (.agg #[.int .i64 x0, .string x1, .int .i64 x2, .int .i64 x3, .int .i64 x4, .int .i64 x5]) (.agg #[.int .i64 y0, .string y1, .int .i64 y2, .int .i64 y3, .int .i64 y4, .int .i64 y5])).run Tryz.prog w = .ok (x0 == y0 && (x1.toList == y1.toList && (x2 == y2 && (x3 == y3 && (x4 == y4 && (x5 == y5)))))) w := eq_38 9995 w x0 x1 x2 x3 x4 x5 y0 y1 y2 y3 y4 y5

/-- jalousielaw8.Op -/
@[go_sem high] theorem load_40 (w : World) (g : Nat) (h : rowOk 11 (w.row g) = true) : (loadR 40 (.pointer (some ⟨g, 0, none⟩))).run Tryz.prog w = .ok (rowV (w.row g)) w :=
  run_loadR_row w Tryz.underlying40 rfl (by kernel_rfl) h
@[go_sem high] theorem store_40 (w : World) (g : Nat) (x0 : Int) (x1 : Int) (x2 : Int) (x3 : ByteArray) (x4 : ByteArray) (x5 : Int) (x6 : ByteArray) (x7 : Int) (x8 : Int) (x9 : Int) (x10 : Int) (h : rowOkW 11 (w.row g) = true) : (storeR 40 (.pointer (some ⟨g, 0, none⟩)) (.agg #[.int .i64 x0, .int .i64 x1, .int .i64 x2, .string x3, .string x4, .int .i64 x5, .string x6, .int .i64 x7, .int .i64 x8, .int .i64 x9, .int .i64 x10])).run Tryz.prog w = .ok () (w.setRow g #[.int .i64 x0, .int .i64 x1, .int .i64 x2, .string x3, .string x4, .int .i64 x5, .string x6, .int .i64 x7, .int .i64 x8, .int .i64 x9, .int .i64 x10]) :=
  run_storeR_row w (by kernel_rfl) rfl h
@[go_sem high] theorem alloc_40 (w : World) : (allocR 40).run Tryz.prog w = .ok (.pointer (some ⟨w.heap.size, 0, none⟩)) (w.alloc (.cells #[.int .i64 0, .int .i64 0, .int .i64 0, .string ⟨#[]⟩, .string ⟨#[]⟩, .int .i64 0, .string ⟨#[]⟩, .int .i64 0, .int .i64 0, .int .i64 0, .int .i64 0] 40)) := by kernel_rfl
theorem ret_40 {fn : Func} {a : Act} {w : World} {R : Ending → World → Prop} {p : Tmp} {g : Nat} (h : fn.results = #[.cell p 40]) (hp : a.tmps.getD p undef = .pointer (some ⟨g, 0, none⟩)) (hrow : rowOk 11 (w.row g) = true) (hdf : a.defers = []) (hR : R (.returned (rowV (w.row g))) w) : bodyPost Tryz.prog fn R .ret a w :=
  ret_cell h hp Tryz.underlying40 rfl (by kernel_rfl) hrow hdf hR
theorem rett_40 {fn : Func} {a : Act} {w : World} {R : Ending → World → Prop} {p q : Tmp} {g : Nat} (h : fn.results = #[.cell p 40, .tmp q]) (hp : a.tmps.getD p undef = .pointer (some ⟨g, 0, none⟩)) (hrow : rowOk 11 (w.row g) = true) (hdf : a.defers = []) (hR : R (.returned (.tuple #[rowV (w.row g), a.tmps.getD q undef])) w) : bodyPost Tryz.prog fn R .ret a w :=
  ret_cell_tmp h hp Tryz.underlying40 rfl (by kernel_rfl) hrow hdf hR

/-- dom.Tree -/
@[go_sem high] theorem load_45 (w : World) (g : Nat) (h : rowOk 3 (w.row g) = true) : (loadR 45 (.pointer (some ⟨g, 0, none⟩))).run Tryz.prog w = .ok (rowV (w.row g)) w :=
  run_loadR_row w Tryz.underlying45 rfl (by kernel_rfl) h
@[go_sem high] theorem store_45 (w : World) (g : Nat) (x0 : Option Nat) (x1 : Int) (x2 : Int) (h : rowOkW 3 (w.row g) = true) : (storeR 45 (.pointer (some ⟨g, 0, none⟩)) (.agg #[.map x0, .int .i64 x1, .int .i64 x2])).run Tryz.prog w = .ok () (w.setRow g #[.map x0, .int .i64 x1, .int .i64 x2]) :=
  run_storeR_row w (by kernel_rfl) rfl h
@[go_sem high] theorem alloc_45 (w : World) : (allocR 45).run Tryz.prog w = .ok (.pointer (some ⟨w.heap.size, 0, none⟩)) (w.alloc (.cells #[.map none, .int .i64 0, .int .i64 0] 45)) := by kernel_rfl
theorem ret_45 {fn : Func} {a : Act} {w : World} {R : Ending → World → Prop} {p : Tmp} {g : Nat} (h : fn.results = #[.cell p 45]) (hp : a.tmps.getD p undef = .pointer (some ⟨g, 0, none⟩)) (hrow : rowOk 3 (w.row g) = true) (hdf : a.defers = []) (hR : R (.returned (rowV (w.row g))) w) : bodyPost Tryz.prog fn R .ret a w :=
  ret_cell h hp Tryz.underlying45 rfl (by kernel_rfl) hrow hdf hR
theorem rett_45 {fn : Func} {a : Act} {w : World} {R : Ending → World → Prop} {p q : Tmp} {g : Nat} (h : fn.results = #[.cell p 45, .tmp q]) (hp : a.tmps.getD p undef = .pointer (some ⟨g, 0, none⟩)) (hrow : rowOk 3 (w.row g) = true) (hdf : a.defers = []) (hR : R (.returned (.tuple #[rowV (w.row g), a.tmps.getD q undef])) w) : bodyPost Tryz.prog fn R .ret a w :=
  ret_cell_tmp h hp Tryz.underlying45 rfl (by kernel_rfl) hrow hdf hR

/-- api.Elem -/
@[go_sem high] theorem load_49 (w : World) (g : Nat) (h : rowOk 11 (w.row g) = true) : (loadR 49 (.pointer (some ⟨g, 0, none⟩))).run Tryz.prog w = .ok (rowV (w.row g)) w :=
  run_loadR_row w Tryz.underlying49 rfl (by kernel_rfl) h
@[go_sem high] theorem store_49 (w : World) (g : Nat) (x0 : Int) (x1 : Int) (x2 : ByteArray) (x3p : Option Addr) (x3l x3c : Nat) (x4p : Option Addr) (x4l x4c : Nat) (x5 : Int) (x6 : ByteArray) (x7 : Int) (x8 : Int) (x9 : Int) (x10 : Int) (h : rowOkW 11 (w.row g) = true) : (storeR 49 (.pointer (some ⟨g, 0, none⟩)) (.agg #[.int .i64 x0, .int .i64 x1, .string x2, .slice x3p x3l x3c, .slice x4p x4l x4c, .int .i64 x5, .string x6, .int .i64 x7, .int .i64 x8, .int .i64 x9, .int .i64 x10])).run Tryz.prog w = .ok () (w.setRow g #[.int .i64 x0, .int .i64 x1, .string x2, .slice x3p x3l x3c, .slice x4p x4l x4c, .int .i64 x5, .string x6, .int .i64 x7, .int .i64 x8, .int .i64 x9, .int .i64 x10]) :=
  run_storeR_row w (by kernel_rfl) rfl h
@[go_sem high] theorem alloc_49 (w : World) : (allocR 49).run Tryz.prog w = .ok (.pointer (some ⟨w.heap.size, 0, none⟩)) (w.alloc (.cells #[.int .i64 0, .int .i64 0, .string ⟨#[]⟩, .slice none 0 0, .slice none 0 0, .int .i64 0, .string ⟨#[]⟩, .int .i64 0, .int .i64 0, .int .i64 0, .int .i64 0] 49)) := by kernel_rfl
theorem ret_49 {fn : Func} {a : Act} {w : World} {R : Ending → World → Prop} {p : Tmp} {g : Nat} (h : fn.results = #[.cell p 49]) (hp : a.tmps.getD p undef = .pointer (some ⟨g, 0, none⟩)) (hrow : rowOk 11 (w.row g) = true) (hdf : a.defers = []) (hR : R (.returned (rowV (w.row g))) w) : bodyPost Tryz.prog fn R .ret a w :=
  ret_cell h hp Tryz.underlying49 rfl (by kernel_rfl) hrow hdf hR
theorem rett_49 {fn : Func} {a : Act} {w : World} {R : Ending → World → Prop} {p q : Tmp} {g : Nat} (h : fn.results = #[.cell p 49, .tmp q]) (hp : a.tmps.getD p undef = .pointer (some ⟨g, 0, none⟩)) (hrow : rowOk 11 (w.row g) = true) (hdf : a.defers = []) (hR : R (.returned (.tuple #[rowV (w.row g), a.tmps.getD q undef])) w) : bodyPost Tryz.prog fn R .ret a w :=
  ret_cell_tmp h hp Tryz.underlying49 rfl (by kernel_rfl) hrow hdf hR

/-- jalousieref8.Tree -/
@[go_sem high] theorem load_58 (w : World) (g : Nat) (h : rowOk 2 (w.row g) = true) : (loadR 58 (.pointer (some ⟨g, 0, none⟩))).run Tryz.prog w = .ok (rowV (w.row g)) w :=
  run_loadR_row w Tryz.underlying58 rfl (by kernel_rfl) h
@[go_sem high] theorem store_58 (w : World) (g : Nat) (x0p : Option Addr) (x0l x0c : Nat) (x1 : Int) (h : rowOkW 2 (w.row g) = true) : (storeR 58 (.pointer (some ⟨g, 0, none⟩)) (.agg #[.slice x0p x0l x0c, .int .i64 x1])).run Tryz.prog w = .ok () (w.setRow g #[.slice x0p x0l x0c, .int .i64 x1]) :=
  run_storeR_row w (by kernel_rfl) rfl h
@[go_sem high] theorem alloc_58 (w : World) : (allocR 58).run Tryz.prog w = .ok (.pointer (some ⟨w.heap.size, 0, none⟩)) (w.alloc (.cells #[.slice none 0 0, .int .i64 0] 58)) := by kernel_rfl
theorem ret_58 {fn : Func} {a : Act} {w : World} {R : Ending → World → Prop} {p : Tmp} {g : Nat} (h : fn.results = #[.cell p 58]) (hp : a.tmps.getD p undef = .pointer (some ⟨g, 0, none⟩)) (hrow : rowOk 2 (w.row g) = true) (hdf : a.defers = []) (hR : R (.returned (rowV (w.row g))) w) : bodyPost Tryz.prog fn R .ret a w :=
  ret_cell h hp Tryz.underlying58 rfl (by kernel_rfl) hrow hdf hR
theorem rett_58 {fn : Func} {a : Act} {w : World} {R : Ending → World → Prop} {p q : Tmp} {g : Nat} (h : fn.results = #[.cell p 58, .tmp q]) (hp : a.tmps.getD p undef = .pointer (some ⟨g, 0, none⟩)) (hrow : rowOk 2 (w.row g) = true) (hdf : a.defers = []) (hR : R (.returned (.tuple #[rowV (w.row g), a.tmps.getD q undef])) w) : bodyPost Tryz.prog fn R .ret a w :=
  ret_cell_tmp h hp Tryz.underlying58 rfl (by kernel_rfl) hrow hdf hR

/-- api.Attr -/
@[go_sem high] theorem load_71 (w : World) (g : Nat) (h : rowOk 2 (w.row g) = true) : (loadR 71 (.pointer (some ⟨g, 0, none⟩))).run Tryz.prog w = .ok (rowV (w.row g)) w :=
  run_loadR_row w Tryz.underlying71 rfl (by kernel_rfl) h
@[go_sem high] theorem store_71 (w : World) (g : Nat) (x0 : ByteArray) (x1 : ByteArray) (h : rowOkW 2 (w.row g) = true) : (storeR 71 (.pointer (some ⟨g, 0, none⟩)) (.agg #[.string x0, .string x1])).run Tryz.prog w = .ok () (w.setRow g #[.string x0, .string x1]) :=
  run_storeR_row w (by kernel_rfl) rfl h
@[go_sem high] theorem alloc_71 (w : World) : (allocR 71).run Tryz.prog w = .ok (.pointer (some ⟨w.heap.size, 0, none⟩)) (w.alloc (.cells #[.string ⟨#[]⟩, .string ⟨#[]⟩] 71)) := by kernel_rfl
theorem ret_71 {fn : Func} {a : Act} {w : World} {R : Ending → World → Prop} {p : Tmp} {g : Nat} (h : fn.results = #[.cell p 71]) (hp : a.tmps.getD p undef = .pointer (some ⟨g, 0, none⟩)) (hrow : rowOk 2 (w.row g) = true) (hdf : a.defers = []) (hR : R (.returned (rowV (w.row g))) w) : bodyPost Tryz.prog fn R .ret a w :=
  ret_cell h hp Tryz.underlying71 rfl (by kernel_rfl) hrow hdf hR
theorem rett_71 {fn : Func} {a : Act} {w : World} {R : Ending → World → Prop} {p q : Tmp} {g : Nat} (h : fn.results = #[.cell p 71, .tmp q]) (hp : a.tmps.getD p undef = .pointer (some ⟨g, 0, none⟩)) (hrow : rowOk 2 (w.row g) = true) (hdf : a.defers = []) (hR : R (.returned (.tuple #[rowV (w.row g), a.tmps.getD q undef])) w) : bodyPost Tryz.prog fn R .ret a w :=
  ret_cell_tmp h hp Tryz.underlying71 rfl (by kernel_rfl) hrow hdf hR
set_option maxRecDepth 100000 in
theorem eq_71 (d : Nat) (w : World) (x0 : ByteArray) (x1 : ByteArray) (y0 : ByteArray) (y1 : ByteArray) : (Op.equalIn (d + 3) 71 (.agg #[.string x0, .string x1]) (.agg #[.string y0, .string y1])).run Tryz.prog w = .ok (x0.toList == y0.toList && (x1.toList == y1.toList)) w := by
  rw [show d + 3 = (d + 2) + 1 from rfl, run_equalIn_agg w _ 71 _ _ (by kernel_rfl) (by kernel_rfl)]
  simp only [Program.fieldsOf, Tryz.underlying71]
  simp [go_sem]
  by_cases h0 : x0.toList = y0.toList
  case neg => simp [h0]
  by_cases h1 : x1.toList = y1.toList
  case neg => simp [h1, h0]
  simp [h0, h1]
@[go_sem high] theorem eq_71_10000 (w : World) (x0 : ByteArray) (x1 : ByteArray) (y0 : ByteArray) (y1 : ByteArray) : (Op.equalIn 10000 71 (.agg #[.string x0, .string x1]) (.agg #[.string y0, .string y1])).run Tryz.prog w = .ok (x0.toList == y0.toList && (x1.toList == y1.toList)) w := eq_71 9997 w x0 x1 y0 y1
@[go_sem high] theorem eq_71_9999 (w : World) (x0 : ByteArray) (x1 : ByteArray) (y0 : ByteArray) (y1 : ByteArray) : (Op.equalIn 9999 71 (.agg #[.string x0, .string x1]) (.agg #[.string y0, .string y1])).run Tryz.prog w = .ok (x0.toList == y0.toList && (x1.toList == y1.toList)) w := eq_71 9996 w x0 x1 y0 y1
@[go_sem high] theorem eq_71_9998 (w : World) (x0 : ByteArray) (x1 : ByteArray) (y0 : ByteArray) (y1 : ByteArray) : (Op.equalIn 9998 71 (.agg #[.string x0, .string x1]) (.agg #[.string y0, .string y1])).run Tryz.prog w = .ok (x0.toList == y0.toList && (x1.toList == y1.toList)) w := eq_71 9995 w x0 x1 y0 y1

@[go_sem high] theorem build_36_z (w : World) : (buildR 36 []).run Tryz.prog w = .ok (.agg #[.int .i64 0, .int .i64 0]) w := run_buildR_of w (by kernel_rfl)
@[go_sem high] theorem build_36_0_1 (a0_0 : Int) (a1_0 : Int) (w : World) : (buildR 36 [(0, .int .i64 a0_0), (1, .int .i64 a1_0)]).run Tryz.prog w = .ok (.agg #[.int .i64 a0_0, .int .i64 a1_0]) w := run_buildR_of w (by kernel_rfl)
@[go_sem high] theorem build_36_1 (a1_0 : Int) (w : World) : (buildR 36 [(1, .int .i64 a1_0)]).run Tryz.prog w = .ok (.agg #[.int .i64 0, .int .i64 a1_0]) w := run_buildR_of w (by kernel_rfl)
@[go_sem high] theorem build_38_2_3 (a2_0 : Int) (a2_1 : Int) (a3_0 : Int) (a3_1 : Int) (w : World) : (buildR 38 [(2, .agg #[.int .i64 a2_0, .int .i64 a2_1]), (3, .agg #[.int .i64 a3_0, .int .i64 a3_1])]).run Tryz.prog w = .ok (.agg #[.int .i64 0, .string ⟨#[]⟩, .int .i64 a2_0, .int .i64 a2_1, .int .i64 a3_0, .int .i64 a3_1]) w := run_buildR_of w (by kernel_rfl)
@[go_sem high] theorem build_45_0 (a0_0 : Option Nat) (w : World) : (buildR 45 [(0, .map a0_0)]).run Tryz.prog w = .ok (.agg #[.map a0_0, .int .i64 0, .int .i64 0]) w := run_buildR_of w (by kernel_rfl)
@[go_sem high] theorem build_45_0_2 (a0_0 : Option Nat) (a2_0 : Int) (w : World) : (buildR 45 [(0, .map a0_0), (2, .int .i64 a2_0)]).run Tryz.prog w = .ok (.agg #[.map a0_0, .int .i64 0, .int .i64 a2_0]) w := run_buildR_of w (by kernel_rfl)
@[go_sem high] theorem build_49_0_1_2_5 (a0_0 : Int) (a1_0 : Int) (a2_0 : ByteArray) (a5_0 : Int) (a5_1 : ByteArray) (a5_2 : Int) (a5_3 : Int) (a5_4 : Int) (a5_5 : Int) (w : World) : (buildR 49 [(0, .int .i64 a0_0), (1, .int .i64 a1_0), (2, .string a2_0), (5, .agg #[.int .i64 a5_0, .string a5_1, .int .i64 a5_2, .int .i64 a5_3, .int .i64 a5_4, .int .i64 a5_5])]).run Tryz.prog w = .ok (.agg #[.int .i64 a0_0, .int .i64 a1_0, .string a2_0, .slice none 0 0, .slice none 0 0, .int .i64 a5_0, .string a5_1, .int .i64 a5_2, .int .i64 a5_3, .int .i64 a5_4, .int .i64 a5_5]) w := run_buildR_of w (by kernel_rfl)
@[go_sem high] theorem build_49_1_2_5 (a1_0 : Int) (a2_0 : ByteArray) (a5_0 : Int) (a5_1 : ByteArray) (a5_2 : Int) (a5_3 : Int) (a5_4 : Int) (a5_5 : Int) (w : World) : (buildR 49 [(1, .int .i64 a1_0), (2, .string a2_0), (5, .agg #[.int .i64 a5_0, .string a5_1, .int .i64 a5_2, .int .i64 a5_3, .int .i64 a5_4, .int .i64 a5_5])]).run Tryz.prog w = .ok (.agg #[.int .i64 0, .int .i64 a1_0, .string a2_0, .slice none 0 0, .slice none 0 0, .int .i64 a5_0, .string a5_1, .int .i64 a5_2, .int .i64 a5_3, .int .i64 a5_4, .int .i64 a5_5]) w := run_buildR_of w (by kernel_rfl)
@[go_sem high] theorem build_58_1 (a1_0 : Int) (w : World) : (buildR 58 [(1, .int .i64 a1_0)]).run Tryz.prog w = .ok (.agg #[.slice none 0 0, .int .i64 a1_0]) w := run_buildR_of w (by kernel_rfl)
@[go_sem high] theorem build_71_0_1 (a0_0 : ByteArray) (a1_0 : ByteArray) (w : World) : (buildR 71 [(0, .string a0_0), (1, .string a1_0)]).run Tryz.prog w = .ok (.agg #[.string a0_0, .string a1_0]) w := run_buildR_of w (by kernel_rfl)

end Go.Proofs.YtdbddnkjiehaiaaGreat

/- LAWS of this program's struct types: a whole row loaded, stored, built, compared. No condition. -/
import Derived.Test.YtdbddnkjiehaiaaProg
import Derived.Test.YtdbddnkjiehaiaaMa
import Derived.Test.YtdbddnkjiehaiaaMf
set_option linter.unusedSimpArgs false
set_option linter.unusedVariables false
namespace Go.Proofs.Ytdbddnkjiehaiaa
open Go.RowKit

/-- api.Rat -/
@[go_sem high] theorem load_33 (w : World) (g : Nat) (h : rowOk 2 (w.row g) = true) : (loadR 33 (.pointer (some ⟨g, 0, none⟩))).run Try.prog w = .ok (rowV (w.row g)) w :=
  run_loadR_row w Try.underlying33 rfl (by kernel_rfl) h
@[go_sem high] theorem store_33 (w : World) (g : Nat) (x0 : Int) (x1 : Int) (h : rowOkW 2 (w.row g) = true) : (storeR 33 (.pointer (some ⟨g, 0, none⟩)) (.agg #[.int .i64 x0, .int .i64 x1])).run Try.prog w = .ok () (w.setRow g #[.int .i64 x0, .int .i64 x1]) :=
  run_storeR_row w (by kernel_rfl) rfl h
@[go_sem high] theorem alloc_33 (w : World) : (allocR 33).run Try.prog w = .ok (.pointer (some ⟨w.heap.size, 0, none⟩)) (w.alloc (.cells #[.int .i64 0, .int .i64 0] 33)) := by kernel_rfl
theorem ret_33 {fn : Func} {a : Act} {w : World} {R : Ending → World → Prop} {p : Tmp} {g : Nat} (h : fn.results = #[.cell p 33]) (hp : a.tmps.getD p undef = .pointer (some ⟨g, 0, none⟩)) (hrow : rowOk 2 (w.row g) = true) (hdf : a.defers = []) (hR : R (.returned (rowV (w.row g))) w) : bodyPost Try.prog fn R .ret a w :=
  ret_cell h hp Try.underlying33 rfl (by kernel_rfl) hrow hdf hR
theorem rett_33 {fn : Func} {a : Act} {w : World} {R : Ending → World → Prop} {p q : Tmp} {g : Nat} (h : fn.results = #[.cell p 33, .tmp q]) (hp : a.tmps.getD p undef = .pointer (some ⟨g, 0, none⟩)) (hrow : rowOk 2 (w.row g) = true) (hdf : a.defers = []) (hR : R (.returned (.tuple #[rowV (w.row g), a.tmps.getD q undef])) w) : bodyPost Try.prog fn R .ret a w :=
  ret_cell_tmp h hp Try.underlying33 rfl (by kernel_rfl) hrow hdf hR
set_option maxRecDepth 100000 in
theorem eq_33 (d : Nat) (w : World) (x0 : Int) (x1 : Int) (y0 : Int) (y1 : Int) : (Op.equalIn (d + 3) 33 (.agg #[.int .i64 x0, .int .i64 x1]) (.agg #[.int .i64 y0, .int .i64 y1])).run Try.prog w = .ok (x0 == y0 && (x1 == y1)) w := by
  rw [show d + 3 = (d + 2) + 1 from rfl, run_equalIn_agg w _ 33 _ _ (by kernel_rfl) (by kernel_rfl)]
  simp only [Program.fieldsOf, Try.underlying33]
  simp [go_sem]
  by_cases h0 : x0 = y0
  case neg => simp [h0]
  by_cases h1 : x1 = y1
  case neg => simp [h1, h0]
  simp [h0, h1]
@[go_sem high] theorem eq_33_10000 (w : World) (x0 : Int) (x1 : Int) (y0 : Int) (y1 : Int) : (Op.equalIn 10000 33 (.agg #[.int .i64 x0, .int .i64 x1]) (.agg #[.int .i64 y0, .int .i64 y1])).run Try.prog w = .ok (x0 == y0 && (x1 == y1)) w := eq_33 9997 w x0 x1 y0 y1
@[go_sem high] theorem eq_33_9999 (w : World) (x0 : Int) (x1 : Int) (y0 : Int) (y1 : Int) : (Op.equalIn 9999 33 (.agg #[.int .i64 x0, .int .i64 x1]) (.agg #[.int .i64 y0, .int .i64 y1])).run Try.prog w = .ok (x0 == y0 && (x1 == y1)) w := eq_33 9996 w x0 x1 y0 y1
@[go_sem high] theorem eq_33_9998 (w : World) (x0 : Int) (x1 : Int) (y0 : Int) (y1 : Int) : (Op.equalIn 9998 33 (.agg #[.int .i64 x0, .int .i64 x1]) (.agg #[.int .i64 y0, .int .i64 y1])).run Try.prog w = .ok (x0 == y0 && (x1 == y1)) w := eq_33 9995 w x0 x1 y0 y1

/-- api.Box -/
@[go_sem high] theorem load_35 (w : World) (g : Nat) (h : rowOk 6 (w.row g) = true) : (loadR 35 (.pointer (some ⟨g, 0, none⟩))).run Try.prog w = .ok (rowV (w.row g)) w :=
  run_loadR_row w Try.underlying35 rfl (by kernel_rfl) h
@[go_sem high] theorem store_35 (w : World) (g : Nat) (x0 : Int) (x1 : ByteArray) (x2 : Int) (x3 : Int) (x4 : Int) (x5 : Int) (h : rowOkW 6 (w.row g) = true) : (storeR 35 (.pointer (some ⟨g, 0, none⟩)) (.agg #[.int .i64 x0, .string x1, .int .i64 x2, .int .i64 x3, .int .i64 x4, .int .i64 x5])).run Try.prog w = .ok () (w.setRow g #[.int .i64 x0, .string x1, .int .i64 x2, .int .i64 x3, .int .i64 x4, .int .i64 x5]) :=
  run_storeR_row w (by kernel_rfl) rfl h
@[go_sem high] theorem alloc_35 (w : World) : (allocR 35).run Try.prog w = .ok (.pointer (some ⟨w.heap.size, 0, none⟩)) (w.alloc (.cells #[.int .i64 0, .string ⟨#[]⟩, .int .i64 0, .int .i64 0, .int .i64 0, .int .i64 0] 35)) := by kernel_rfl
theorem ret_35 {fn : Func} {a : Act} {w : World} {R : Ending → World → Prop} {p : Tmp} {g : Nat} (h : fn.results = #[.cell p 35]) (hp : a.tmps.getD p undef = .pointer (some ⟨g, 0, none⟩)) (hrow : rowOk 6 (w.row g) = true) (hdf : a.defers = []) (hR : R (.returned (rowV (w.row g))) w) : bodyPost Try.prog fn R .ret a w :=
  ret_cell h hp Try.underlying35 rfl (by kernel_rfl) hrow hdf hR
theorem rett_35 {fn : Func} {a : Act} {w : World} {R : Ending → World → Prop} {p q : Tmp} {g : Nat} (h : fn.results = #[.cell p 35, .tmp q]) (hp : a.tmps.getD p undef = .pointer (some ⟨g, 0, none⟩)) (hrow : rowOk 6 (w.row g) = true) (hdf : a.defers = []) (hR : R (.returned (.tuple #[rowV (w.row g), a.tmps.getD q undef])) w) : bodyPost Try.prog fn R .ret a w :=
  ret_cell_tmp h hp Try.underlying35 rfl (by kernel_rfl) hrow hdf hR
set_option maxRecDepth 100000 in
theorem eq_35 (d : Nat) (w : World) (x0 : Int) (x1 : ByteArray) (x2 : Int) (x3 : Int) (x4 : Int) (x5 : Int) (y0 : Int) (y1 : ByteArray) (y2 : Int) (y3 : Int) (y4 : Int) (y5 : Int) : (Op.equalIn (d + 3) 35 (.agg #[.int .i64 x0, .string x1, .int .i64 x2, .int .i64 x3, .int .i64 x4, .int .i64 x5]) (.agg #[.int .i64 y0, .string y1, .int .i64 y2, .int .i64 y3, .int .i64 y4, .int .i64 y5])).run Try.prog w = .ok (x0 == y0 && (x1.toList == y1.toList && (x2 == y2 && (x3 == y3 && (x4 == y4 && (x5 == y5)))))) w := by
  rw [show d + 3 = (d + 2) + 1 from rfl, run_equalIn_agg w _ 35 _ _ (by kernel_rfl) (by kernel_rfl)]
  simp only [Program.fieldsOf, Try.underlying35]
  simp [go_sem]
  by_cases h0 : x0 = y0
  case neg => simp [h0]
  by_cases h1 : x1.toList = y1.toList
  case neg => simp [h1, h0]
  by_cases h2 : x2 = y2
  case neg => simp [h2, h0, h1]
  by_cases h3 : x3 = y3
  case neg => simp [h3, h0, h1, h2]
  by_cases h4 : x4 = y4
  case neg => simp [h4, h0, h1, h2, h3]
  by_cases h5 : x5 = y5
  case neg => simp [h5, h0, h1, h2, h3, h4]
  simp [h0, h1, h2, h3, h4, h5]
@[go_sem high] theorem eq_35_10000 (w : World) (x0 : Int) (x1 : ByteArray) (x2 : Int) (x3 : Int) (x4 : Int) (x5 : Int) (y0 : Int) (y1 : ByteArray) (y2 : Int) (y3 : Int) (y4 : Int) (y5 : Int) : (Op.equalIn 10000 35 (.agg #[.int .i64 x0, .string x1, .int .i64 x2, .int .i64 x3, .int .i64 x4, .int .i64 x5]) (.agg #[.int .i64 y0, .string y1, .int .i64 y2, .int .i64 y3, .int .i64 y4, .int .i64 y5])).run Try.prog w = .ok (x0 == y0 && (x1.toList == y1.toList && (x2 == y2 && (x3 == y3 && (x4 == y4 && (x5 == y5)))))) w := eq_35 9997 w x0 x1 x2 x3 x4 x5 y0 y1 y2 y3 y4 y5
@[go_sem high] theorem eq_35_9999 (w : World) (x0 : Int) (x1 : ByteArray) (x2 : Int) (x3 : Int) (x4 : Int) (x5 : Int) (y0 : Int) (y1 : ByteArray) (y2 : Int) (y3 : Int) (y4 : Int) (y5 : Int) : (Op.equalIn 9999 35 (.agg #[.int .i64 x0, .string x1, .int .i64 x2, .int .i64 x3, .int .i64 x4, .int .i64 x5]) (.agg #[.int .i64 y0, .string y1, .int .i64 y2, .int .i64 y3, .int .i64 y4, .int .i64 y5])).run Try.prog w = .ok (x0 == y0 && (x1.toList == y1.toList && (x2 == y2 && (x3 == y3 && (x4 == y4 && (x5 == y5)))))) w := eq_35 9996 w x0 x1 x2 x3 x4 x5 y0 y1 y2 y3 y4 y5
@[go_sem high] theorem eq_35_9998 (w : World) (x0 : Int) (x1 : ByteArray) (x2 : Int) (x3 : Int) (x4 : Int) (x5 : Int) (y0 : Int) (y1 : ByteArray) (y2 : Int) (y3 : Int) (y4 : Int) (y5 : Int) : (Op.equalIn 9998 35 (.agg #[.int .i64 x0, .string x1, .int .i64 x2, .int .i64 x3, .int .i64 x4, .int .i64 x5]) (.agg #[.int .i64 y0, .string y1, .int .i64 y2, .int .i64 y3, .int .i64 y4, .int .i64 y5])).run Try.prog w = .ok (x0 == y0 && (x1.toList == y1.toList && (x2 == y2 && (x3 == y3 && (x4 == y4 && (x5 == y5)))))) w := eq_35 9995 w x0 x1 x2 x3 x4 x5 y0 y1 y2 y3 y4 y5

/-- jalousielaw8.Op -/
@[go_sem high] theorem load_37 (w : World) (g : Nat) (h : rowOk 11 (w.row g) = true) : (loadR 37 (.pointer (some ⟨g, 0, none⟩))).run Try.prog w = .ok (rowV (w.row g)) w :=
  run_loadR_row w Try.underlying37 rfl (by kernel_rfl) h
@[go_sem high] theorem store_37 (w : World) (g : Nat) (x0 : Int) (x1 : Int) (x2 : Int) (x3 : ByteArray) (x4 : ByteArray) (x5 : Int) (x6 : ByteArray) (x7 : Int) (x8 : Int) (x9 : Int) (x10 : Int) (h : rowOkW 11 (w.row g) = true) : (storeR 37 (.pointer (some ⟨g, 0, none⟩)) (.agg #[.int .i64 x0, .int .i64 x1, .int .i64 x2, .string x3, .string x4, .int .i64 x5, .string x6, .int .i64 x7, .int .i64 x8, .int .i64 x9, .int .i64 x10])).run Try.prog w = .ok () (w.setRow g #[.int .i64 x0, .int .i64 x1, .int .i64 x2, .string x3, .string x4, .int .i64 x5, .string x6, .int .i64 x7, .int .i64 x8, .int .i64 x9, .int .i64 x10]) :=
  run_storeR_row w (by kernel_rfl) rfl h
@[go_sem high] theorem alloc_37 (w : World) : (allocR 37).run Try.prog w = .ok (.pointer (some ⟨w.heap.size, 0, none⟩)) (w.alloc (.cells #[.int .i64 0, .int .i64 0, .int .i64 0, .string ⟨#[]⟩, .string ⟨#[]⟩, .int .i64 0, .string ⟨#[]⟩, .int .i64 0, .int .i64 0, .int .i64 0, .int .i64 0] 37)) := by kernel_rfl
theorem ret_37 {fn : Func} {a : Act} {w : World} {R : Ending → World → Prop} {p : Tmp} {g : Nat} (h : fn.results = #[.cell p 37]) (hp : a.tmps.getD p undef = .pointer (some ⟨g, 0, none⟩)) (hrow : rowOk 11 (w.row g) = true) (hdf : a.defers = []) (hR : R (.returned (rowV (w.row g))) w) : bodyPost Try.prog fn R .ret a w :=
  ret_cell h hp Try.underlying37 rfl (by kernel_rfl) hrow hdf hR
theorem rett_37 {fn : Func} {a : Act} {w : World} {R : Ending → World → Prop} {p q : Tmp} {g : Nat} (h : fn.results = #[.cell p 37, .tmp q]) (hp : a.tmps.getD p undef = .pointer (some ⟨g, 0, none⟩)) (hrow : rowOk 11 (w.row g) = true) (hdf : a.defers = []) (hR : R (.returned (.tuple #[rowV (w.row g), a.tmps.getD q undef])) w) : bodyPost Try.prog fn R .ret a w :=
  ret_cell_tmp h hp Try.underlying37 rfl (by kernel_rfl) hrow hdf hR

/-- api.Elem -/
@[go_sem high] theorem load_46 (w : World) (g : Nat) (h : rowOk 11 (w.row g) = true) : (loadR 46 (.pointer (some ⟨g, 0, none⟩))).run Try.prog w = .ok (rowV (w.row g)) w :=
  run_loadR_row w Try.underlying46 rfl (by kernel_rfl) h
@[go_sem high] theorem store_46 (w : World) (g : Nat) (x0 : Int) (x1 : Int) (x2 : ByteArray) (x3p : Option Addr) (x3l x3c : Nat) (x4p : Option Addr) (x4l x4c : Nat) (x5 : Int) (x6 : ByteArray) (x7 : Int) (x8 : Int) (x9 : Int) (x10 : Int) (h : rowOkW 11 (w.row g) = true) : (storeR 46 (.pointer (some ⟨g, 0, none⟩)) (.agg #[.int .i64 x0, .int .i64 x1, .string x2, .slice x3p x3l x3c, .slice x4p x4l x4c, .int .i64 x5, .string x6, .int .i64 x7, .int .i64 x8, .int .i64 x9, .int .i64 x10])).run Try.prog w = .ok () (w.setRow g #[.int .i64 x0, .int .i64 x1, .string x2, .slice x3p x3l x3c, .slice x4p x4l x4c, .int .i64 x5, .string x6, .int .i64 x7, .int .i64 x8, .int .i64 x9, .int .i64 x10]) :=
  run_storeR_row w (by kernel_rfl) rfl h
@[go_sem high] theorem alloc_46 (w : World) : (allocR 46).run Try.prog w = .ok (.pointer (some ⟨w.heap.size, 0, none⟩)) (w.alloc (.cells #[.int .i64 0, .int .i64 0, .string ⟨#[]⟩, .slice none 0 0, .slice none 0 0, .int .i64 0, .string ⟨#[]⟩, .int .i64 0, .int .i64 0, .int .i64 0, .int .i64 0] 46)) := by kernel_rfl
theorem ret_46 {fn : Func} {a : Act} {w : World} {R : Ending → World → Prop} {p : Tmp} {g : Nat} (h : fn.results = #[.cell p 46]) (hp : a.tmps.getD p undef = .pointer (some ⟨g, 0, none⟩)) (hrow : rowOk 11 (w.row g) = true) (hdf : a.defers = []) (hR : R (.returned (rowV (w.row g))) w) : bodyPost Try.prog fn R .ret a w :=
  ret_cell h hp Try.underlying46 rfl (by kernel_rfl) hrow hdf hR
theorem rett_46 {fn : Func} {a : Act} {w : World} {R : Ending → World → Prop} {p q : Tmp} {g : Nat} (h : fn.results = #[.cell p 46, .tmp q]) (hp : a.tmps.getD p undef = .pointer (some ⟨g, 0, none⟩)) (hrow : rowOk 11 (w.row g) = true) (hdf : a.defers = []) (hR : R (.returned (.tuple #[rowV (w.row g), a.tmps.getD q undef])) w) : bodyPost Try.prog fn R .ret a w :=
  ret_cell_tmp h hp Try.underlying46 rfl (by kernel_rfl) hrow hdf hR

/-- jalousieref8.Tree -/
@[go_sem high] theorem load_53 (w : World) (g : Nat) (h : rowOk 2 (w.row g) = true) : (loadR 53 (.pointer (some ⟨g, 0, none⟩))).run Try.prog w = .ok (rowV (w.row g)) w :=
  run_loadR_row w Try.underlying53 rfl (by kernel_rfl) h
@[go_sem high] theorem store_53 (w : World) (g : Nat) (x0p : Option Addr) (x0l x0c : Nat) (x1 : Int) (h : rowOkW 2 (w.row g) = true) : (storeR 53 (.pointer (some ⟨g, 0, none⟩)) (.agg #[.slice x0p x0l x0c, .int .i64 x1])).run Try.prog w = .ok () (w.setRow g #[.slice x0p x0l x0c, .int .i64 x1]) :=
  run_storeR_row w (by kernel_rfl) rfl h
@[go_sem high] theorem alloc_53 (w : World) : (allocR 53).run Try.prog w = .ok (.pointer (some ⟨w.heap.size, 0, none⟩)) (w.alloc (.cells #[.slice none 0 0, .int .i64 0] 53)) := by kernel_rfl
theorem ret_53 {fn : Func} {a : Act} {w : World} {R : Ending → World → Prop} {p : Tmp} {g : Nat} (h : fn.results = #[.cell p 53]) (hp : a.tmps.getD p undef = .pointer (some ⟨g, 0, none⟩)) (hrow : rowOk 2 (w.row g) = true) (hdf : a.defers = []) (hR : R (.returned (rowV (w.row g))) w) : bodyPost Try.prog fn R .ret a w :=
  ret_cell h hp Try.underlying53 rfl (by kernel_rfl) hrow hdf hR
theorem rett_53 {fn : Func} {a : Act} {w : World} {R : Ending → World → Prop} {p q : Tmp} {g : Nat} (h : fn.results = #[.cell p 53, .tmp q]) (hp : a.tmps.getD p undef = .pointer (some ⟨g, 0, none⟩)) (hrow : rowOk 2 (w.row g) = true) (hdf : a.defers = []) (hR : R (.returned (.tuple #[rowV (w.row g), a.tmps.getD q undef])) w) : bodyPost Try.prog fn R .ret a w :=
  ret_cell_tmp h hp Try.underlying53 rfl (by kernel_rfl) hrow hdf hR

/-- api.Attr -/
@[go_sem high] theorem load_62 (w : World) (g : Nat) (h : rowOk 2 (w.row g) = true) : (loadR 62 (.pointer (some ⟨g, 0, none⟩))).run Try.prog w = .ok (rowV (w.row g)) w :=
  run_loadR_row w Try.underlying62 rfl (by kernel_rfl) h
@[go_sem high] theorem store_62 (w : World) (g : Nat) (x0 : ByteArray) (x1 : ByteArray) (h : rowOkW 2 (w.row g) = true) : (storeR 62 (.pointer (some ⟨g, 0, none⟩)) (.agg #[.string x0, .string x1])).run Try.prog w = .ok () (w.setRow g #[.string x0, .string x1]) :=
  run_storeR_row w (by kernel_rfl) rfl h
@[go_sem high] theorem alloc_62 (w : World) : (allocR 62).run Try.prog w = .ok (.pointer (some ⟨w.heap.size, 0, none⟩)) (w.alloc (.cells #[.string ⟨#[]⟩, .string ⟨#[]⟩] 62)) := by kernel_rfl
theorem ret_62 {fn : Func} {a : Act} {w : World} {R : Ending → World → Prop} {p : Tmp} {g : Nat} (h : fn.results = #[.cell p 62]) (hp : a.tmps.getD p undef = .pointer (some ⟨g, 0, none⟩)) (hrow : rowOk 2 (w.row g) = true) (hdf : a.defers = []) (hR : R (.returned (rowV (w.row g))) w) : bodyPost Try.prog fn R .ret a w :=
  ret_cell h hp Try.underlying62 rfl (by kernel_rfl) hrow hdf hR
theorem rett_62 {fn : Func} {a : Act} {w : World} {R : Ending → World → Prop} {p q : Tmp} {g : Nat} (h : fn.results = #[.cell p 62, .tmp q]) (hp : a.tmps.getD p undef = .pointer (some ⟨g, 0, none⟩)) (hrow : rowOk 2 (w.row g) = true) (hdf : a.defers = []) (hR : R (.returned (.tuple #[rowV (w.row g), a.tmps.getD q undef])) w) : bodyPost Try.prog fn R .ret a w :=
  ret_cell_tmp h hp Try.underlying62 rfl (by kernel_rfl) hrow hdf hR
set_option maxRecDepth 100000 in
theorem eq_62 (d : Nat) (w : World) (x0 : ByteArray) (x1 : ByteArray) (y0 : ByteArray) (y1 : ByteArray) : (Op.equalIn (d + 3) 62 (.agg #[.string x0, .string x1]) (.agg #[.string y0, .string y1])).run Try.prog w = .ok (x0.toList == y0.toList && (x1.toList == y1.toList)) w := by
  rw [show d + 3 = (d + 2) + 1 from rfl, run_equalIn_agg w _ 62 _ _ (by kernel_rfl) (by kernel_rfl)]
  simp only [Program.fieldsOf, Try.underlying62]
  simp [go_sem]
  by_cases h0 : x0.toList = y0.toList
  case neg => simp [h0]
  by_cases h1 : x1.toList = y1.toList
  case neg => simp [h1, h0]
  simp [h0, h1]
@[go_sem high] theorem eq_62_10000 (w : World) (x0 : ByteArray) (x1 : ByteArray) (y0 : ByteArray) (y1 : ByteArray) : (Op.equalIn 10000 62 (.agg #[.string x0, .string x1]) (.agg #[.string y0, .string y1])).run Try.prog w = .ok (x0.toList == y0.toList && (x1.toList == y1.toList)) w := eq_62 9997 w x0 x1 y0 y1
@[go_sem high] theorem eq_62_9999 (w : World) (x0 : ByteArray) (x1 : ByteArray) (y0 : ByteArray) (y1 : ByteArray) : (Op.equalIn 9999 62 (.agg #[.string x0, .string x1]) (.agg #[.string y0, .string y1])).run Try.prog w = .ok (x0.toList == y0.toList && (x1.toList == y1.toList)) w := eq_62 9996 w x0 x1 y0 y1
@[go_sem high] theorem eq_62_9998 (w : World) (x0 : ByteArray) (x1 : ByteArray) (y0 : ByteArray) (y1 : ByteArray) : (Op.equalIn 9998 62 (.agg #[.string x0, .string x1]) (.agg #[.string y0, .string y1])).run Try.prog w = .ok (x0.toList == y0.toList && (x1.toList == y1.toList)) w := eq_62 9995 w x0 x1 y0 y1

/-- dom.Tree -/
@[go_sem high] theorem load_81 (w : World) (g : Nat) (h : rowOk 3 (w.row g) = true) : (loadR 81 (.pointer (some ⟨g, 0, none⟩))).run Try.prog w = .ok (rowV (w.row g)) w :=
  run_loadR_row w Try.underlying81 rfl (by kernel_rfl) h
@[go_sem high] theorem store_81 (w : World) (g : Nat) (x0 : Option Nat) (x1 : Int) (x2 : Int) (h : rowOkW 3 (w.row g) = true) : (storeR 81 (.pointer (some ⟨g, 0, none⟩)) (.agg #[.map x0, .int .i64 x1, .int .i64 x2])).run Try.prog w = .ok () (w.setRow g #[.map x0, .int .i64 x1, .int .i64 x2]) :=
  run_storeR_row w (by kernel_rfl) rfl h
@[go_sem high] theorem alloc_81 (w : World) : (allocR 81).run Try.prog w = .ok (.pointer (some ⟨w.heap.size, 0, none⟩)) (w.alloc (.cells #[.map none, .int .i64 0, .int .i64 0] 81)) := by kernel_rfl
theorem ret_81 {fn : Func} {a : Act} {w : World} {R : Ending → World → Prop} {p : Tmp} {g : Nat} (h : fn.results = #[.cell p 81]) (hp : a.tmps.getD p undef = .pointer (some ⟨g, 0, none⟩)) (hrow : rowOk 3 (w.row g) = true) (hdf : a.defers = []) (hR : R (.returned (rowV (w.row g))) w) : bodyPost Try.prog fn R .ret a w :=
  ret_cell h hp Try.underlying81 rfl (by kernel_rfl) hrow hdf hR
theorem rett_81 {fn : Func} {a : Act} {w : World} {R : Ending → World → Prop} {p q : Tmp} {g : Nat} (h : fn.results = #[.cell p 81, .tmp q]) (hp : a.tmps.getD p undef = .pointer (some ⟨g, 0, none⟩)) (hrow : rowOk 3 (w.row g) = true) (hdf : a.defers = []) (hR : R (.returned (.tuple #[rowV (w.row g), a.tmps.getD q undef])) w) : bodyPost Try.prog fn R .ret a w :=
  ret_cell_tmp h hp Try.underlying81 rfl (by kernel_rfl) hrow hdf hR

@[go_sem high] theorem build_33_z (w : World) : (buildR 33 []).run Try.prog w = .ok (.agg #[.int .i64 0, .int .i64 0]) w := run_buildR_of w (by kernel_rfl)
@[go_sem high] theorem build_33_0_1 (a0_0 : Int) (a1_0 : Int) (w : World) : (buildR 33 [(0, .int .i64 a0_0), (1, .int .i64 a1_0)]).run Try.prog w = .ok (.agg #[.int .i64 a0_0, .int .i64 a1_0]) w := run_buildR_of w (by kernel_rfl)
@[go_sem high] theorem build_33_1 (a1_0 : Int) (w : World) : (buildR 33 [(1, .int .i64 a1_0)]).run Try.prog w = .ok (.agg #[.int .i64 0, .int .i64 a1_0]) w := run_buildR_of w (by kernel_rfl)
@[go_sem high] theorem build_35_2_3 (a2_0 : Int) (a2_1 : Int) (a3_0 : Int) (a3_1 : Int) (w : World) : (buildR 35 [(2, .agg #[.int .i64 a2_0, .int .i64 a2_1]), (3, .agg #[.int .i64 a3_0, .int .i64 a3_1])]).run Try.prog w = .ok (.agg #[.int .i64 0, .string ⟨#[]⟩, .int .i64 a2_0, .int .i64 a2_1, .int .i64 a3_0, .int .i64 a3_1]) w := run_buildR_of w (by kernel_rfl)
@[go_sem high] theorem build_46_z (w : World) : (buildR 46 []).run Try.prog w = .ok (.agg #[.int .i64 0, .int .i64 0, .string ⟨#[]⟩, .slice none 0 0, .slice none 0 0, .int .i64 0, .string ⟨#[]⟩, .int .i64 0, .int .i64 0, .int .i64 0, .int .i64 0]) w := run_buildR_of w (by kernel_rfl)
@[go_sem high] theorem build_46_0_1_2_5 (a0_0 : Int) (a1_0 : Int) (a2_0 : ByteArray) (a5_0 : Int) (a5_1 : ByteArray) (a5_2 : Int) (a5_3 : Int) (a5_4 : Int) (a5_5 : Int) (w : World) : (buildR 46 [(0, .int .i64 a0_0), (1, .int .i64 a1_0), (2, .string a2_0), (5, .agg #[.int .i64 a5_0, .string a5_1, .int .i64 a5_2, .int .i64 a5_3, .int .i64 a5_4, .int .i64 a5_5])]).run Try.prog w = .ok (.agg #[.int .i64 a0_0, .int .i64 a1_0, .string a2_0, .slice none 0 0, .slice none 0 0, .int .i64 a5_0, .string a5_1, .int .i64 a5_2, .int .i64 a5_3, .int .i64 a5_4, .int .i64 a5_5]) w := run_buildR_of w (by kernel_rfl)
@[go_sem high] theorem build_46_1_2_5 (a1_0 : Int) (a2_0 : ByteArray) (a5_0 : Int) (a5_1 : ByteArray) (a5_2 : Int) (a5_3 : Int) (a5_4 : Int) (a5_5 : Int) (w : World) : (buildR 46 [(1, .int .i64 a1_0), (2, .string a2_0), (5, .agg #[.int .i64 a5_0, .string a5_1, .int .i64 a5_2, .int .i64 a5_3, .int .i64 a5_4, .int .i64 a5_5])]).run Try.prog w = .ok (.agg #[.int .i64 0, .int .i64 a1_0, .string a2_0, .slice none 0 0, .slice none 0 0, .int .i64 a5_0, .string a5_1, .int .i64 a5_2, .int .i64 a5_3, .int .i64 a5_4, .int .i64 a5_5]) w := run_buildR_of w (by kernel_rfl)
@[go_sem high] theorem build_46_2 (a2_0 : ByteArray) (w : World) : (buildR 46 [(2, .string a2_0)]).run Try.prog w = .ok (.agg #[.int .i64 0, .int .i64 0, .string a2_0, .slice none 0 0, .slice none 0 0, .int .i64 0, .string ⟨#[]⟩, .int .i64 0, .int .i64 0, .int .i64 0, .int .i64 0]) w := run_buildR_of w (by kernel_rfl)
@[go_sem high] theorem build_53_0_1 (a0_0p : Option Addr) (a0_0l a0_0c : Nat) (a1_0 : Int) (w : World) : (buildR 53 [(0, .slice a0_0p a0_0l a0_0c), (1, .int .i64 a1_0)]).run Try.prog w = .ok (.agg #[.slice a0_0p a0_0l a0_0c, .int .i64 a1_0]) w := run_buildR_of w (by kernel_rfl)
@[go_sem high] theorem build_62_0 (a0_0 : ByteArray) (w : World) : (buildR 62 [(0, .string a0_0)]).run Try.prog w = .ok (.agg #[.string a0_0, .string ⟨#[]⟩]) w := run_buildR_of w (by kernel_rfl)
@[go_sem high] theorem build_62_0_1 (a0_0 : ByteArray) (a1_0 : ByteArray) (w : World) : (buildR 62 [(0, .string a0_0), (1, .string a1_0)]).run Try.prog w = .ok (.agg #[.string a0_0, .string a1_0]) w := run_buildR_of w (by kernel_rfl)
@[go_sem high] theorem build_81_0 (a0_0 : Option Nat) (w : World) : (buildR 81 [(0, .map a0_0)]).run Try.prog w = .ok (.agg #[.map a0_0, .int .i64 0, .int .i64 0]) w := run_buildR_of w (by kernel_rfl)
@[go_sem high] theorem build_81_0_1_2 (a0_0 : Option Nat) (a1_0 : Int) (a2_0 : Int) (w : World) : (buildR 81 [(0, .map a0_0), (1, .int .i64 a1_0), (2, .int .i64 a2_0)]).run Try.prog w = .ok (.agg #[.map a0_0, .int .i64 a1_0, .int .i64 a2_0]) w := run_buildR_of w (by kernel_rfl)
@[go_sem high] theorem build_81_0_2 (a0_0 : Option Nat) (a2_0 : Int) (w : World) : (buildR 81 [(0, .map a0_0), (2, .int .i64 a2_0)]).run Try.prog w = .ok (.agg #[.map a0_0, .int .i64 0, .int .i64 a2_0]) w := run_buildR_of w (by kernel_rfl)

end Go.Proofs.Ytdbddnkjiehaiaa

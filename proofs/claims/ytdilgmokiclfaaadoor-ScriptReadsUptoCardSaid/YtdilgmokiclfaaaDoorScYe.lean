/- Chapter 24: what the rows' lists and the world's form give: the cells that the library reads. -/
import Derived.Test.YtdilgmokiclfaaaDoorRows
import Derived.Test.YtdilgmokiclfaaaDoorScV
import Derived.LaidMore
import Derived.Lay
import Derived.Stop.LaidErr
import Derived.Lib.LaidTab
namespace Go.Proofs.YtdilgmokiclfaaaDoor
open Go Go.ChangeShapes Go.WideShapes Go.ChangeAt Go.RowKit
set_option linter.unusedVariables false
set_option maxRecDepth 100000

theorem gPow7 : Tryd.prog.globalNamed "internal/strconv.uint64pow10" = some 1 := by kernel_rfl
theorem tPow7 : (Tryd.prog.globals[1]?).map (·.type) = some 143 := by kernel_rfl
theorem gES : Tryd.prog.globalNamed "strconv.ErrSyntax" = some 2 := by kernel_rfl
theorem gEST : (Tryd.prog.globals[2]?).map (·.type) = some 45 := by kernel_rfl
theorem gER : Tryd.prog.globalNamed "strconv.ErrRange" = some 3 := by kernel_rfl
theorem gERT : (Tryd.prog.globals[3]?).map (·.type) = some 45 := by kernel_rfl
theorem starE : "*" ++ "errors.errorString" = "*errors.errorString" := by decide
theorem rowE (u : TypeId) (h : Tryd.prog.typeName? 3 u = some "*errors.errorString") : u = 158 :=
  typeName_ptr_named (nm := "errors.errorString") (by rw [starE]; kernel_rfl) (by kernel_rfl) (by decide) u (by rw [starE]; exact h)
theorem cellsE : Tryd.prog.cellsOf 160 = 1 := by kernel_rfl
theorem cellsS : Tryd.prog.cellsOf 9 = 1 := by kernel_rfl
/-- The listed table of powers of ten. -/
theorem pow_of7 {W : World} (h : laidMet Tryd.prog Rows.scriptOnceRow.laid W) : Pow W := by
  have hd : (Rows.laid_internal_strconv_uint64pow10 : DataW Unit) = Lib.tabData .u64 Lib.pow10Tab := by kernel_rfl
  obtain ⟨ps, ⟨g0, t0, cs0, f0, p0, q0, hg0, ht0, hv0, hd0, ⟨g1, t1, cs1, f1, p1, q1, hg1, ht1, hv1, hd1, ⟨g2, t2, cs2, f2, p2, q2, hg2, ht2, hv2, hd2, _, _⟩, _⟩, _⟩, _, _⟩ := h
  obtain rfl := Option.some.inj (gPow7.symm.trans hg2)
  obtain rfl := Option.some.inj (tPow7.symm.trans ht2)
  rw [hd] at hd2
  unfold Pow Lib.TabIs
  rw [hv2, ← Lib.cells_of_tab Tryd.underlying143 Tryd.underlying22 (by kernel_rfl) (by kernel_rfl) hd2]
/-- The world of a row that lists the library's tables and errors. -/
theorem env_of7 {W : World} (h : laidMet Tryd.prog Rows.scriptOnceRow.laid W) (hs : W.ShapedOpen Tryd.prog) : Env W := by
  have h4 : laidMet Tryd.prog (("strconv.ErrRange", Rows.laid_strconv_ErrRange) :: ("strconv.ErrSyntax", Rows.laid_strconv_ErrSyntax) :: ("unicode/utf8.first", Rows.laid_unicode_utf8_first) :: []) W := h.tail.tail.tail.tail
  have h5 := h4.tail
  unfold Rows.laid_strconv_ErrRange at h4
  unfold Rows.laid_strconv_ErrSyntax at h5
  obtain ⟨a0, s0, hv0, -, -, -⟩ := laid_sentinel h4 gER gERT Tryd.underlying45 rowE Tryd.underlying158 Tryd.underlying160 rfl rfl Tryd.underlying9 cellsE cellsS
  obtain ⟨a1, s1, hv1, -, -, -⟩ := laid_sentinel h5 gES gEST Tryd.underlying45 rowE Tryd.underlying158 Tryd.underlying160 rfl rfl Tryd.underlying9 cellsE cellsS
  have c3 := World.var?_cell gER hv0 0
  have c2 := World.var?_cell gES hv1 0
  exact ⟨Tryd.laysM145.s1_3 W hs, ⟨_, _, by simpa using c2⟩, ⟨_, _, by simpa using c3⟩, pow_of7 h⟩
end Go.Proofs.YtdilgmokiclfaaaDoor

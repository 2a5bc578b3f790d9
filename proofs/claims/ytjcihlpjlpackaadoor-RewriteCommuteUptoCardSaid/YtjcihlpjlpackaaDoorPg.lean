/-
  What the listed tables give the walks of the laws on rules: utf8.ValidString's answers, and so the chapter's example. No conditions.
-/
import Derived.Test.YtjcihlpjlpackaaDoorRows
import Derived.Test.YtjcihlpjlpackaaDoorPe
set_option linter.unusedVariables false
namespace Go.GH
open Go Go.Lib Go.Proofs Go.Proofs.YtjcihlpjlpackaaDoor
theorem u8Extra : U8Extra Tryd.prog Tryd.laysValid_ren :=
  ⟨by kernel_rfl, by kernel_rfl, by kernel_rfl, by kernel_rfl, by kernel_rfl, by kernel_rfl, by kernel_rfl⟩
theorem laid_E0 (W : World) (h : laidMetH Tryd.prog Rows.rewriteValidRow.laid W) : E0.holds W (AllF W) := by
  have h' : laidMet Tryd.prog [("unicode/utf8.acceptRanges", Rows.laid_unicode_utf8_acceptRanges), ("unicode/utf8.first", Rows.laid_unicode_utf8_first)] W := h
  have e1 : Rows.laid_unicode_utf8_first = firstData := by kernel_rfl
  have e2 : (Rows.laid_unicode_utf8_acceptRanges : DataW Unit) = acceptData := by kernel_rfl
  rw [e1, e2] at h'
  exact tabE_all (utf8Tabs_of_readsT (U8Types.of196 Tryd.laysValid) u8Extra (laidMet.reads h' (.tail _ (.head _))) (laidMet.reads h' (.head _)))
theorem vsE0 : VS E0 := vs_ok
theorem awE0 : AW7 E0 := awake7 vsE0
end Go.GH

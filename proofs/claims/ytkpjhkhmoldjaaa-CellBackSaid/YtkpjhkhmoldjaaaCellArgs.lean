/- Arguments of rows and places. -/
import Derived.Test.YtkpjhkhmoldjaaaCellFun
import Derived.Test.YtkpjhkhmoldjaaaSxRow
set_option linter.unusedVariables false
set_option linter.unusedSimpArgs false
namespace Go.Proofs.Ytkpjhkhmoldjaaa
open Sx
abbrev rowSh : Shp := .struct (.cons .str (.cons .str (.cons .str .nil)))
abbrev ridSh : Shp := .struct (.cons (.int .i64) (.cons (.int .i64) .nil))
theorem ok_rowS {v : SV} (h : rowSh.OkS v) : ∃ a b c, v = rowV a b c := by
  obtain ⟨l, rfl, l1, l2, rfl, ⟨a, rfl, _⟩, l3, l4, rfl, ⟨b, rfl, _⟩, l5, l6, rfl, ⟨c, rfl, _⟩, rfl⟩ := h
  exact ⟨a, b, c, rfl⟩
theorem ok_ridS {v : SV} (h : ridSh.OkS v) : ∃ p q, v = ridV2 p q := by
  obtain ⟨l, rfl, l1, l2, rfl, ⟨a, rfl, _⟩, l3, l4, rfl, ⟨b, rfl, _⟩, rfl⟩ := h
  exact ⟨a, b, rfl⟩
end Go.Proofs.Ytkpjhkhmoldjaaa

import Derived.Test.YtibndfopdfggpaaSheetAll
import Derived.Test.YtibndfopdfggpaaSxRow
set_option linter.unusedVariables false
set_option linter.unusedSimpArgs false
namespace Go.Proofs.Ytibndfopdfggpaa
open Sx
set_option maxRecDepth 100000

abbrev bysh : Shp := .slice (.int .u8)

theorem law_sheetAll (svs : List SV) (hs : OkAll [.int .i64, bysh, bysh, bysh] svs) : FSpec Try.prog 3 svs [] tru := by
  obtain ⟨a, l, rfl, h1, hs⟩ := okAll_cons hs
  obtain ⟨b, l, rfl, h2, hs⟩ := okAll_cons hs
  obtain ⟨c, l, rfl, h3, hs⟩ := okAll_cons hs
  obtain ⟨d, l, rfl, h4, hs⟩ := okAll_cons hs
  obtain rfl := okAll_nil hs
  obtain ⟨x, rfl, _⟩ := ok_int h1
  obtain ⟨n, f, bf, _, s0⟩ := ok_bytes h2
  obtain ⟨na, g, bg, _, s1⟩ := ok_bytes h3
  obtain ⟨nb, h, bh, _, s2⟩ := ok_bytes h4
  exact (sp_lawAll x n na nb f g h bf bg bh).told ⟨rfl, s0, s1, s2, trivial⟩
end Go.Proofs.Ytibndfopdfggpaa

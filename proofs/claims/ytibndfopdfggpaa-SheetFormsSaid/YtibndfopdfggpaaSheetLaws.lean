import Derived.Test.YtibndfopdfggpaaSheetBack
import Derived.Test.YtibndfopdfggpaaSheetBytes
import Derived.Test.YtibndfopdfggpaaSheetTorn
import Derived.Test.YtibndfopdfggpaaSheetForms
import Derived.Test.YtibndfopdfggpaaSxRow
set_option linter.unusedVariables false
set_option linter.unusedSimpArgs false
namespace Go.Proofs.Ytibndfopdfggpaa
open Sx

abbrev bysh : Shp := .slice (.int .u8)

theorem law_sheetBack : ∀ svs, OkAll [.int .u32, .int .u32, bysh, bysh] svs → FSpec Try.prog 4 svs [] tru
  | [a, b, c, d], ⟨h1, h2, h3, h4, _⟩ => by
    obtain ⟨m, rfl, w1⟩ := ok_int h1
    obtain ⟨n, rfl, w2⟩ := ok_int h2
    obtain ⟨na, f, bf, _, s1⟩ := ok_bytes h3
    obtain ⟨nb, g, bg, _, s2⟩ := ok_bytes h4
    exact (sp_lawBack m n na nb f g (wf_u32 w1).1 (wf_u32 w2).1 bf bg).told ⟨rfl, rfl, s1, s2, trivial⟩
theorem law_sheetBytes : ∀ svs, OkAll [.int .u32, bysh] svs → FSpec Try.prog 6 svs [] tru
  | [a, c], ⟨h1, h3, _⟩ => by
    obtain ⟨m, rfl, w1⟩ := ok_int h1
    obtain ⟨na, f, bf, _, s1⟩ := ok_bytes h3
    exact (sp_lawBytes m na f (wf_u32 w1).1 bf).told ⟨rfl, s1, trivial⟩
theorem law_sheetTorn : ∀ svs, OkAll [.int .u16, .int .u16, .int .u8, .int .u8] svs → FSpec Try.prog 7 svs [] tru
  | [a, b, c, d], ⟨h1, h2, h3, h4, _⟩ => by
    obtain ⟨m, rfl, w1⟩ := ok_int h1
    obtain ⟨n, rfl, w2⟩ := ok_int h2
    obtain ⟨x, rfl, w3⟩ := ok_int h3
    obtain ⟨y, rfl, w4⟩ := ok_int h4
    exact sp_lawTorn m n x y (wf_u16 w1) (wf_u16 w2) (wf_u8 w3) (wf_u8 w4)
theorem law_sheetForms : ∀ svs, OkAll [] svs → FSpec Try.prog 5 svs [] tru
  | [], _ => sp_lawForms
end Go.Proofs.Ytibndfopdfggpaa

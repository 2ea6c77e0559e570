/-
  No cell of these rows narrows 'for every input' (looked for: loops, veiled, ifaces, maps, wideKeys, modest, calm, conditions, laid).
  DERIVED. THE GIVEN ROWS OF THIS SEAT. 5 by the template 'for every input the law returns true; each argument reads behind the call as it read before'; 0 by the template 'total and deterministic' (their statements: YtibndfopdfggpaaTotals.lean).
  GIVEN WITH THE SEED: the statements are not yours to turn. If you find one false, say at which input.
  Laid BY PROGRAM, IN A SANDBOX (cutbox-rows.mjs): the forced cells as the released guide's own fill.sh prints them over the translation e9eb9ff154bf8bff… (all of the seat's roots in one cut). By AI agents, Wed Nov 11 2026. No macro, syntax, notation, axiom, sorry.
-/
import Derived.Test.YtibndfopdfggpaaChecked
import GoSem.Claim
import GoSem.ClaimJoined
import GoSem.ClaimMapViews
import Derived.JoinedTies
import Derived.KernelRfl
namespace Go.Proofs.Ytibndfopdfggpaa
/- THE CELL 'sum', in the pinned program and in every row, IS THE sha256 OF THE DUMP (.gsa) THAT YtibndfopdfggpaaProg.lean LOADS. Nothing in Lean hashes anything: it is a label: what it is worth is what the hold of that sum in a sandbox is worth. -/
noncomputable def Try.pinned : Pinned := { name := "ytibndfopdfggpaa", sum := "e9eb9ff154bf8bffc2261509ed705b17aec896b920d98abd9cd8ce996e9d9717", checked := Try.checked }
namespace Rows
def none {H : Type} : Left H := { results := [], args := [] }

/-- 'whimlaw2.SheetAll': WHATEVER THE INPUT: true; the input reads as it did. -/
def sheetAllSpec : ChangeSpec := { name := "sheetAll", fn := fun _ => fun
  | [d1, d2, d3, d4] => { results := [.lit (.bool true)], args := [d1, d2, d3, d4] }
  | _ => none }
def sheetAllRow : OpenClaim := { program := "ytibndfopdfggpaa", sum := "e9eb9ff154bf8bffc2261509ed705b17aec896b920d98abd9cd8ce996e9d9717", func := "whim/whimlaw2.SheetAll", spec := "sheetAll", apart := false }
def SheetAllSaid : Prop := sheetAllRow.holds Try.pinned (OpenSpec.ofChange sheetAllSpec)

/-- ITS FALSE NEIGHBOUR: 'it returns false'. Refute it at one input. -/
def sheetAllWrong : ChangeSpec := { name := "sheetAll", fn := fun _ => fun
  | [d1, d2, d3, d4] => { results := [.lit (.bool false)], args := [d1, d2, d3, d4] }
  | _ => none }
def SheetAllWrongFalsely : Prop := sheetAllRow.holds Try.pinned (OpenSpec.ofChange sheetAllWrong)

/-- 'whimlaw2.SheetBack': WHATEVER THE INPUT: true; the input reads as it did. -/
def sheetBackSpec : ChangeSpec := { name := "sheetBack", fn := fun _ => fun
  | [d1, d2, d3, d4] => { results := [.lit (.bool true)], args := [d1, d2, d3, d4] }
  | _ => none }
def sheetBackRow : OpenClaim := { program := "ytibndfopdfggpaa", sum := "e9eb9ff154bf8bffc2261509ed705b17aec896b920d98abd9cd8ce996e9d9717", func := "whim/whimlaw2.SheetBack", spec := "sheetBack", apart := false }
def SheetBackSaid : Prop := sheetBackRow.holds Try.pinned (OpenSpec.ofChange sheetBackSpec)

/-- ITS FALSE NEIGHBOUR: 'it returns false'. Refute it at one input. -/
def sheetBackWrong : ChangeSpec := { name := "sheetBack", fn := fun _ => fun
  | [d1, d2, d3, d4] => { results := [.lit (.bool false)], args := [d1, d2, d3, d4] }
  | _ => none }
def SheetBackWrongFalsely : Prop := sheetBackRow.holds Try.pinned (OpenSpec.ofChange sheetBackWrong)

/-- 'whimlaw2.SheetForms': WHATEVER THE INPUT: true; the input reads as it did. -/
def sheetFormsSpec : ChangeSpec := { name := "sheetForms", fn := fun _ => fun
  | [] => { results := [.lit (.bool true)], args := [] }
  | _ => none }
def sheetFormsRow : OpenClaim := { program := "ytibndfopdfggpaa", sum := "e9eb9ff154bf8bffc2261509ed705b17aec896b920d98abd9cd8ce996e9d9717", func := "whim/whimlaw2.SheetForms", spec := "sheetForms", apart := false }
def SheetFormsSaid : Prop := sheetFormsRow.holds Try.pinned (OpenSpec.ofChange sheetFormsSpec)

/-- ITS FALSE NEIGHBOUR: 'it returns false'. Refute it at one input. -/
def sheetFormsWrong : ChangeSpec := { name := "sheetForms", fn := fun _ => fun
  | [] => { results := [.lit (.bool false)], args := [] }
  | _ => none }
def SheetFormsWrongFalsely : Prop := sheetFormsRow.holds Try.pinned (OpenSpec.ofChange sheetFormsWrong)

/-- 'whimlaw2.SheetBytes': WHATEVER THE INPUT: true; the input reads as it did. -/
def sheetBytesSpec : ChangeSpec := { name := "sheetBytes", fn := fun _ => fun
  | [d1, d2] => { results := [.lit (.bool true)], args := [d1, d2] }
  | _ => none }
def sheetBytesRow : OpenClaim := { program := "ytibndfopdfggpaa", sum := "e9eb9ff154bf8bffc2261509ed705b17aec896b920d98abd9cd8ce996e9d9717", func := "whim/whimlaw2.SheetBytes", spec := "sheetBytes", apart := false }
def SheetBytesSaid : Prop := sheetBytesRow.holds Try.pinned (OpenSpec.ofChange sheetBytesSpec)

/-- ITS FALSE NEIGHBOUR: 'it returns false'. Refute it at one input. -/
def sheetBytesWrong : ChangeSpec := { name := "sheetBytes", fn := fun _ => fun
  | [d1, d2] => { results := [.lit (.bool false)], args := [d1, d2] }
  | _ => none }
def SheetBytesWrongFalsely : Prop := sheetBytesRow.holds Try.pinned (OpenSpec.ofChange sheetBytesWrong)

/-- 'whimlaw2.SheetTorn': WHATEVER THE INPUT: true; the input reads as it did. -/
def sheetTornSpec : ChangeSpec := { name := "sheetTorn", fn := fun _ => fun
  | [d1, d2, d3, d4] => { results := [.lit (.bool true)], args := [d1, d2, d3, d4] }
  | _ => none }
def sheetTornRow : OpenClaim := { program := "ytibndfopdfggpaa", sum := "e9eb9ff154bf8bffc2261509ed705b17aec896b920d98abd9cd8ce996e9d9717", func := "whim/whimlaw2.SheetTorn", spec := "sheetTorn", apart := false }
def SheetTornSaid : Prop := sheetTornRow.holds Try.pinned (OpenSpec.ofChange sheetTornSpec)

/-- ITS FALSE NEIGHBOUR: 'it returns false'. Refute it at one input. -/
def sheetTornWrong : ChangeSpec := { name := "sheetTorn", fn := fun _ => fun
  | [d1, d2, d3, d4] => { results := [.lit (.bool false)], args := [d1, d2, d3, d4] }
  | _ => none }
def SheetTornWrongFalsely : Prop := sheetTornRow.holds Try.pinned (OpenSpec.ofChange sheetTornWrong)

/- THE SECOND FORM. 'bulk': how many values and letters a reading holds, each counted each time it is reached (what is shared counts as often as it is met; a slice's spare places count too). A statement '..UptoSaid' is the law's where the arguments, and the package variables that the reading takes, are together of bulk at most 1048576: NARROWER than '..Said'. Prove '..Said' where nothing that the law and all that it calls make is longer than what came in: it says more and counts as full. Else prove '..UptoSaid'. A law counts once. -/
mutual
def uptoBulk {H : Type} : DataW H → Nat
  | .lit (.string bytes) => bytes.length + 1
  | .lit _ => 1
  | .nil => 1
  | .ptr d => uptoBulk d + 1
  | .slice elems spare => uptoBulkAll elems + uptoBulkAll spare + 1
  | .agg parts => uptoBulkAll parts + 1
  | .iface _ d => uptoBulk d + 1
  | .map entries => uptoBulkEntries entries + 1
  | .held _ => 1
def uptoBulkAll {H : Type} : List (DataW H) → Nat
  | [] => 0
  | d :: r => uptoBulk d + uptoBulkAll r
def uptoBulkEntries {H : Type} : List (Lit × DataW H) → Nat
  | [] => 0
  | x :: r => uptoBulkEntry x + uptoBulkEntries r
def uptoBulkEntry {H : Type} : Lit × DataW H → Nat
  | (.string bytes, d) => bytes.length + uptoBulk d + 1
  | (_, d) => uptoBulk d + 1
 end
def uptoSmall : (H : Type) → List (DataW H) → Bool := fun _ ds => decide (uptoBulkAll ds ≤ 1048576)
def OpenSpec.upto (s : _root_.Go.ChangeSpec) : _root_.Go.OpenSpec := { _root_.Go.OpenSpec.ofChange s with cond := some uptoSmall }

/-- 'whimlaw2.SheetAll', WHERE WHAT IT READS IS OF BULK AT MOST 1048576: true; the input reads as it did. -/
def sheetAllUptoRow : OpenClaim := { program := "ytibndfopdfggpaa", sum := "e9eb9ff154bf8bffc2261509ed705b17aec896b920d98abd9cd8ce996e9d9717", func := "whim/whimlaw2.SheetAll", spec := "sheetAll", apart := false, narrowed := true }
def SheetAllUptoSaid : Prop := sheetAllUptoRow.holds Try.pinned (OpenSpec.upto sheetAllSpec)

/-- 'whimlaw2.SheetBack', WHERE WHAT IT READS IS OF BULK AT MOST 1048576: true; the input reads as it did. -/
def sheetBackUptoRow : OpenClaim := { program := "ytibndfopdfggpaa", sum := "e9eb9ff154bf8bffc2261509ed705b17aec896b920d98abd9cd8ce996e9d9717", func := "whim/whimlaw2.SheetBack", spec := "sheetBack", apart := false, narrowed := true }
def SheetBackUptoSaid : Prop := sheetBackUptoRow.holds Try.pinned (OpenSpec.upto sheetBackSpec)

/-- 'whimlaw2.SheetForms', WHERE WHAT IT READS IS OF BULK AT MOST 1048576: true; the input reads as it did. -/
def sheetFormsUptoRow : OpenClaim := { program := "ytibndfopdfggpaa", sum := "e9eb9ff154bf8bffc2261509ed705b17aec896b920d98abd9cd8ce996e9d9717", func := "whim/whimlaw2.SheetForms", spec := "sheetForms", apart := false, narrowed := true }
def SheetFormsUptoSaid : Prop := sheetFormsUptoRow.holds Try.pinned (OpenSpec.upto sheetFormsSpec)

/-- 'whimlaw2.SheetBytes', WHERE WHAT IT READS IS OF BULK AT MOST 1048576: true; the input reads as it did. -/
def sheetBytesUptoRow : OpenClaim := { program := "ytibndfopdfggpaa", sum := "e9eb9ff154bf8bffc2261509ed705b17aec896b920d98abd9cd8ce996e9d9717", func := "whim/whimlaw2.SheetBytes", spec := "sheetBytes", apart := false, narrowed := true }
def SheetBytesUptoSaid : Prop := sheetBytesUptoRow.holds Try.pinned (OpenSpec.upto sheetBytesSpec)

/-- 'whimlaw2.SheetTorn', WHERE WHAT IT READS IS OF BULK AT MOST 1048576: true; the input reads as it did. -/
def sheetTornUptoRow : OpenClaim := { program := "ytibndfopdfggpaa", sum := "e9eb9ff154bf8bffc2261509ed705b17aec896b920d98abd9cd8ce996e9d9717", func := "whim/whimlaw2.SheetTorn", spec := "sheetTorn", apart := false, narrowed := true }
def SheetTornUptoSaid : Prop := sheetTornUptoRow.holds Try.pinned (OpenSpec.upto sheetTornSpec)

end Rows
end Go.Proofs.Ytibndfopdfggpaa

/-
  No cell of these rows narrows 'for every input' (looked for: loops, veiled, ifaces, maps, wideKeys, modest, calm, conditions, laid).
  DERIVED. THE GIVEN ROWS OF THIS SEAT. 6 by the template 'for every input the law returns true; each argument reads behind the call as it read before'; 0 by the template 'total and deterministic' (their statements: YtbhefgajgdcajaaTotals.lean).
  GIVEN WITH THE SEED: the statements are not yours to turn. If you find one false, say at which input.
  Laid BY PROGRAM, IN A SANDBOX (cutbox-rows.mjs): the forced cells as the released guide's own fill.sh prints them over the translation aafc45caad2db457… (all of the seat's roots in one cut). By AI agents, Wed Nov 11 2026. No macro, syntax, notation, axiom, sorry.
-/
import Derived.Test.YtbhefgajgdcajaaChecked
import GoSem.Claim
import GoSem.ClaimJoined
import GoSem.ClaimMapViews
import Derived.JoinedTies
import Derived.KernelRfl
namespace Go.Proofs.Ytbhefgajgdcajaa
/- THE CELL 'sum', in the pinned program and in every row, IS THE sha256 OF THE DUMP (.gsa) THAT YtbhefgajgdcajaaProg.lean LOADS. Nothing in Lean hashes anything: it is a label: what it is worth is what the hold of that sum in a sandbox is worth. -/
noncomputable def Try.pinned : Pinned := { name := "ytbhefgajgdcajaa", sum := "aafc45caad2db457c86d39aefb2c8965be009341f469c0e08a3ef430685f3421", checked := Try.checked }
namespace Rows
def none {H : Type} : Left H := { results := [], args := [] }

/-- 'whimlaw5.EntryAll': WHATEVER THE INPUT: true; the input reads as it did. -/
def entryAllSpec : ChangeSpec := { name := "entryAll", fn := fun _ => fun
  | [d1, d2, d3] => { results := [.lit (.bool true)], args := [d1, d2, d3] }
  | _ => none }
def entryAllRow : OpenClaim := { program := "ytbhefgajgdcajaa", sum := "aafc45caad2db457c86d39aefb2c8965be009341f469c0e08a3ef430685f3421", func := "whim/whimlaw5.EntryAll", spec := "entryAll", unfollowed := true, recurses := true, apart := false }
def EntryAllSaid : Prop := entryAllRow.holds Try.pinned (OpenSpec.ofChange entryAllSpec)

/-- ITS FALSE NEIGHBOUR: 'it returns false'. Refute it at one input. -/
def entryAllWrong : ChangeSpec := { name := "entryAll", fn := fun _ => fun
  | [d1, d2, d3] => { results := [.lit (.bool false)], args := [d1, d2, d3] }
  | _ => none }
def EntryAllWrongFalsely : Prop := entryAllRow.holds Try.pinned (OpenSpec.ofChange entryAllWrong)

/-- 'whimlaw5.EntryTurned': WHATEVER THE INPUT: true; the input reads as it did. -/
def entryTurnedSpec : ChangeSpec := { name := "entryTurned", fn := fun _ => fun
  | [d1, d2, d3] => { results := [.lit (.bool true)], args := [d1, d2, d3] }
  | _ => none }
def entryTurnedRow : OpenClaim := { program := "ytbhefgajgdcajaa", sum := "aafc45caad2db457c86d39aefb2c8965be009341f469c0e08a3ef430685f3421", func := "whim/whimlaw5.EntryTurned", spec := "entryTurned", unfollowed := true, recurses := true, apart := false }
def EntryTurnedSaid : Prop := entryTurnedRow.holds Try.pinned (OpenSpec.ofChange entryTurnedSpec)

/-- ITS FALSE NEIGHBOUR: 'it returns false'. Refute it at one input. -/
def entryTurnedWrong : ChangeSpec := { name := "entryTurned", fn := fun _ => fun
  | [d1, d2, d3] => { results := [.lit (.bool false)], args := [d1, d2, d3] }
  | _ => none }
def EntryTurnedWrongFalsely : Prop := entryTurnedRow.holds Try.pinned (OpenSpec.ofChange entryTurnedWrong)

/-- 'whimlaw5.EntryBack': WHATEVER THE INPUT: true; the input reads as it did. -/
def entryBackSpec : ChangeSpec := { name := "entryBack", fn := fun _ => fun
  | [d1, d2, d3, d4] => { results := [.lit (.bool true)], args := [d1, d2, d3, d4] }
  | _ => none }
def entryBackRow : OpenClaim := { program := "ytbhefgajgdcajaa", sum := "aafc45caad2db457c86d39aefb2c8965be009341f469c0e08a3ef430685f3421", func := "whim/whimlaw5.EntryBack", spec := "entryBack", unfollowed := true, recurses := true, apart := false }
def EntryBackSaid : Prop := entryBackRow.holds Try.pinned (OpenSpec.ofChange entryBackSpec)

/-- ITS FALSE NEIGHBOUR: 'it returns false'. Refute it at one input. -/
def entryBackWrong : ChangeSpec := { name := "entryBack", fn := fun _ => fun
  | [d1, d2, d3, d4] => { results := [.lit (.bool false)], args := [d1, d2, d3, d4] }
  | _ => none }
def EntryBackWrongFalsely : Prop := entryBackRow.holds Try.pinned (OpenSpec.ofChange entryBackWrong)

/-- 'whimlaw5.EntryForms': WHATEVER THE INPUT: true; the input reads as it did. -/
def entryFormsSpec : ChangeSpec := { name := "entryForms", fn := fun _ => fun
  | [] => { results := [.lit (.bool true)], args := [] }
  | _ => none }
def entryFormsRow : OpenClaim := { program := "ytbhefgajgdcajaa", sum := "aafc45caad2db457c86d39aefb2c8965be009341f469c0e08a3ef430685f3421", func := "whim/whimlaw5.EntryForms", spec := "entryForms", unfollowed := true, recurses := true, apart := false }
def EntryFormsSaid : Prop := entryFormsRow.holds Try.pinned (OpenSpec.ofChange entryFormsSpec)

/-- ITS FALSE NEIGHBOUR: 'it returns false'. Refute it at one input. -/
def entryFormsWrong : ChangeSpec := { name := "entryForms", fn := fun _ => fun
  | [] => { results := [.lit (.bool false)], args := [] }
  | _ => none }
def EntryFormsWrongFalsely : Prop := entryFormsRow.holds Try.pinned (OpenSpec.ofChange entryFormsWrong)

/-- 'whimlaw5.EntryApart': WHATEVER THE INPUT: true; the input reads as it did. -/
def entryApartSpec : ChangeSpec := { name := "entryApart", fn := fun _ => fun
  | [d1, d2] => { results := [.lit (.bool true)], args := [d1, d2] }
  | _ => none }
def entryApartRow : OpenClaim := { program := "ytbhefgajgdcajaa", sum := "aafc45caad2db457c86d39aefb2c8965be009341f469c0e08a3ef430685f3421", func := "whim/whimlaw5.EntryApart", spec := "entryApart", unfollowed := true, recurses := true, apart := false }
def EntryApartSaid : Prop := entryApartRow.holds Try.pinned (OpenSpec.ofChange entryApartSpec)

/-- ITS FALSE NEIGHBOUR: 'it returns false'. Refute it at one input. -/
def entryApartWrong : ChangeSpec := { name := "entryApart", fn := fun _ => fun
  | [d1, d2] => { results := [.lit (.bool false)], args := [d1, d2] }
  | _ => none }
def EntryApartWrongFalsely : Prop := entryApartRow.holds Try.pinned (OpenSpec.ofChange entryApartWrong)

/-- 'whimlaw5.EntryLengths': WHATEVER THE INPUT: true; the input reads as it did. -/
def entryLengthsSpec : ChangeSpec := { name := "entryLengths", fn := fun _ => fun
  | [d1, d2, d3, d4, d5, d6] => { results := [.lit (.bool true)], args := [d1, d2, d3, d4, d5, d6] }
  | _ => none }
def entryLengthsRow : OpenClaim := { program := "ytbhefgajgdcajaa", sum := "aafc45caad2db457c86d39aefb2c8965be009341f469c0e08a3ef430685f3421", func := "whim/whimlaw5.EntryLengths", spec := "entryLengths", unfollowed := true, recurses := true, apart := false }
def EntryLengthsSaid : Prop := entryLengthsRow.holds Try.pinned (OpenSpec.ofChange entryLengthsSpec)

/-- ITS FALSE NEIGHBOUR: 'it returns false'. Refute it at one input. -/
def entryLengthsWrong : ChangeSpec := { name := "entryLengths", fn := fun _ => fun
  | [d1, d2, d3, d4, d5, d6] => { results := [.lit (.bool false)], args := [d1, d2, d3, d4, d5, d6] }
  | _ => none }
def EntryLengthsWrongFalsely : Prop := entryLengthsRow.holds Try.pinned (OpenSpec.ofChange entryLengthsWrong)

/- THE SECOND FORM. 'bulk': how many values and letters a reading holds, each counted each time it is reached (what is shared counts as often as it is met; a slice's spare places count too). A statement '..UptoSaid' is the law's where the arguments, and the package variables that the reading takes, are together of bulk at most 1048576: NARROWER than '..Said'. Prove '..Said' where nothing that the law and all that it calls make is longer than what came in: it says more and counts as full. Else prove '..UptoSaid'. A law counts once. -/
mutual
def uptoBulk {H : Type} : DataW H → Nat
  | .lit (.string bytes) => bytes.length + 1
  | .lit _ => 1
  | .nil => 1
  | .ptr d => uptoBulk d + 1
  | .slice elems spare => uptoBulkAll elems + uptoBulkAll spare + 1
  | .agg parts => uptoBulkAll parts + 1
  | .iface _ d => uptoBulk d + 1
  | .map entries => uptoBulkEntries entries + 1
  | .held _ => 1
def uptoBulkAll {H : Type} : List (DataW H) → Nat
  | [] => 0
  | d :: r => uptoBulk d + uptoBulkAll r
def uptoBulkEntries {H : Type} : List (Lit × DataW H) → Nat
  | [] => 0
  | x :: r => uptoBulkEntry x + uptoBulkEntries r
def uptoBulkEntry {H : Type} : Lit × DataW H → Nat
  | (.string bytes, d) => bytes.length + uptoBulk d + 1
  | (_, d) => uptoBulk d + 1
 end
def uptoSmall : (H : Type) → List (DataW H) → Bool := fun _ ds => decide (uptoBulkAll ds ≤ 1048576)
def OpenSpec.upto (s : _root_.Go.ChangeSpec) : _root_.Go.OpenSpec := { _root_.Go.OpenSpec.ofChange s with cond := some uptoSmall }

/-- 'whimlaw5.EntryAll', WHERE WHAT IT READS IS OF BULK AT MOST 1048576: true; the input reads as it did. -/
def entryAllUptoRow : OpenClaim := { program := "ytbhefgajgdcajaa", sum := "aafc45caad2db457c86d39aefb2c8965be009341f469c0e08a3ef430685f3421", func := "whim/whimlaw5.EntryAll", spec := "entryAll", unfollowed := true, recurses := true, apart := false, narrowed := true }
def EntryAllUptoSaid : Prop := entryAllUptoRow.holds Try.pinned (OpenSpec.upto entryAllSpec)

/-- 'whimlaw5.EntryTurned', WHERE WHAT IT READS IS OF BULK AT MOST 1048576: true; the input reads as it did. -/
def entryTurnedUptoRow : OpenClaim := { program := "ytbhefgajgdcajaa", sum := "aafc45caad2db457c86d39aefb2c8965be009341f469c0e08a3ef430685f3421", func := "whim/whimlaw5.EntryTurned", spec := "entryTurned", unfollowed := true, recurses := true, apart := false, narrowed := true }
def EntryTurnedUptoSaid : Prop := entryTurnedUptoRow.holds Try.pinned (OpenSpec.upto entryTurnedSpec)

/-- 'whimlaw5.EntryBack', WHERE WHAT IT READS IS OF BULK AT MOST 1048576: true; the input reads as it did. -/
def entryBackUptoRow : OpenClaim := { program := "ytbhefgajgdcajaa", sum := "aafc45caad2db457c86d39aefb2c8965be009341f469c0e08a3ef430685f3421", func := "whim/whimlaw5.EntryBack", spec := "entryBack", unfollowed := true, recurses := true, apart := false, narrowed := true }
def EntryBackUptoSaid : Prop := entryBackUptoRow.holds Try.pinned (OpenSpec.upto entryBackSpec)

/-- 'whimlaw5.EntryForms', WHERE WHAT IT READS IS OF BULK AT MOST 1048576: true; the input reads as it did. -/
def entryFormsUptoRow : OpenClaim := { program := "ytbhefgajgdcajaa", sum := "aafc45caad2db457c86d39aefb2c8965be009341f469c0e08a3ef430685f3421", func := "whim/whimlaw5.EntryForms", spec := "entryForms", unfollowed := true, recurses := true, apart := false, narrowed := true }
def EntryFormsUptoSaid : Prop := entryFormsUptoRow.holds Try.pinned (OpenSpec.upto entryFormsSpec)

/-- 'whimlaw5.EntryApart', WHERE WHAT IT READS IS OF BULK AT MOST 1048576: true; the input reads as it did. -/
def entryApartUptoRow : OpenClaim := { program := "ytbhefgajgdcajaa", sum := "aafc45caad2db457c86d39aefb2c8965be009341f469c0e08a3ef430685f3421", func := "whim/whimlaw5.EntryApart", spec := "entryApart", unfollowed := true, recurses := true, apart := false, narrowed := true }
def EntryApartUptoSaid : Prop := entryApartUptoRow.holds Try.pinned (OpenSpec.upto entryApartSpec)

/-- 'whimlaw5.EntryLengths', WHERE WHAT IT READS IS OF BULK AT MOST 1048576: true; the input reads as it did. -/
def entryLengthsUptoRow : OpenClaim := { program := "ytbhefgajgdcajaa", sum := "aafc45caad2db457c86d39aefb2c8965be009341f469c0e08a3ef430685f3421", func := "whim/whimlaw5.EntryLengths", spec := "entryLengths", unfollowed := true, recurses := true, apart := false, narrowed := true }
def EntryLengthsUptoSaid : Prop := entryLengthsUptoRow.holds Try.pinned (OpenSpec.upto entryLengthsSpec)

end Rows
end Go.Proofs.Ytbhefgajgdcajaa

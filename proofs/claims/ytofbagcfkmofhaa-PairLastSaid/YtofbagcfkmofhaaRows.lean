/-
  No cell of these rows narrows 'for every input' (looked for: loops, veiled, ifaces, maps, wideKeys, modest, calm, conditions, laid).
  DERIVED. THE GIVEN ROWS OF THIS SEAT. 3 by the template 'for every input the law returns true; each argument reads behind the call as it read before'; 0 by the template 'total and deterministic' (their statements: YtofbagcfkmofhaaTotals.lean).
  GIVEN WITH THE SEED: the statements are not yours to turn. If you find one false, say at which input.
  Laid BY PROGRAM, IN A SANDBOX (cutbox-rows.mjs): the forced cells as the released guide's own fill.sh prints them over the translation a3b825b43db74a68… (all of the seat's roots in one cut). By AI agents, Wed Nov 11 2026. No macro, syntax, notation, axiom, sorry.
-/
import Derived.Test.YtofbagcfkmofhaaChecked
import GoSem.Claim
import GoSem.ClaimJoined
import GoSem.ClaimMapViews
import Derived.JoinedTies
import Derived.KernelRfl
namespace Go.Proofs.Ytofbagcfkmofhaa
/- THE CELL 'sum', in the pinned program and in every row, IS THE sha256 OF THE DUMP (.gsa) THAT YtofbagcfkmofhaaProg.lean LOADS. Nothing in Lean hashes anything: it is a label: what it is worth is what the hold of that sum in a sandbox is worth. -/
noncomputable def Try.pinned : Pinned := { name := "ytofbagcfkmofhaa", sum := "a3b825b43db74a68f93e3ca0b890089d90ed4f08bac6b9e590c9d17d4ce56906", checked := Try.checked }
namespace Rows
def none {H : Type} : Left H := { results := [], args := [] }

/-- 'whimlaw20.PairAll': WHATEVER THE INPUT: true; the input reads as it did. -/
def pairAllSpec : ChangeSpec := { name := "pairAll", fn := fun _ => fun
  | [d] => { results := [.lit (.bool true)], args := [d] }
  | _ => none }
def pairAllRow : OpenClaim := { program := "ytofbagcfkmofhaa", sum := "a3b825b43db74a68f93e3ca0b890089d90ed4f08bac6b9e590c9d17d4ce56906", func := "whim/whimlaw20.PairAll", spec := "pairAll", plainKeys := false, apart := false }
def PairAllSaid : Prop := pairAllRow.holds Try.pinned (OpenSpec.ofChange pairAllSpec)

/-- ITS FALSE NEIGHBOUR: 'it returns false'. Refute it at one input. -/
def pairAllWrong : ChangeSpec := { name := "pairAll", fn := fun _ => fun
  | [d] => { results := [.lit (.bool false)], args := [d] }
  | _ => none }
def PairAllWrongFalsely : Prop := pairAllRow.holds Try.pinned (OpenSpec.ofChange pairAllWrong)

/-- 'whimlaw20.PairBoth': WHATEVER THE INPUT: true; the input reads as it did. -/
def pairBothSpec : ChangeSpec := { name := "pairBoth", fn := fun _ => fun
  | [d] => { results := [.lit (.bool true)], args := [d] }
  | _ => none }
def pairBothRow : OpenClaim := { program := "ytofbagcfkmofhaa", sum := "a3b825b43db74a68f93e3ca0b890089d90ed4f08bac6b9e590c9d17d4ce56906", func := "whim/whimlaw20.PairBoth", spec := "pairBoth", plainKeys := false, apart := false }
def PairBothSaid : Prop := pairBothRow.holds Try.pinned (OpenSpec.ofChange pairBothSpec)

/-- ITS FALSE NEIGHBOUR: 'it returns false'. Refute it at one input. -/
def pairBothWrong : ChangeSpec := { name := "pairBoth", fn := fun _ => fun
  | [d] => { results := [.lit (.bool false)], args := [d] }
  | _ => none }
def PairBothWrongFalsely : Prop := pairBothRow.holds Try.pinned (OpenSpec.ofChange pairBothWrong)

/-- 'whimlaw20.PairLast': WHATEVER THE INPUT: true; the input reads as it did. -/
def pairLastSpec : ChangeSpec := { name := "pairLast", fn := fun _ => fun
  | [d] => { results := [.lit (.bool true)], args := [d] }
  | _ => none }
def pairLastRow : OpenClaim := { program := "ytofbagcfkmofhaa", sum := "a3b825b43db74a68f93e3ca0b890089d90ed4f08bac6b9e590c9d17d4ce56906", func := "whim/whimlaw20.PairLast", spec := "pairLast", plainKeys := false, apart := false }
def PairLastSaid : Prop := pairLastRow.holds Try.pinned (OpenSpec.ofChange pairLastSpec)

/-- ITS FALSE NEIGHBOUR: 'it returns false'. Refute it at one input. -/
def pairLastWrong : ChangeSpec := { name := "pairLast", fn := fun _ => fun
  | [d] => { results := [.lit (.bool false)], args := [d] }
  | _ => none }
def PairLastWrongFalsely : Prop := pairLastRow.holds Try.pinned (OpenSpec.ofChange pairLastWrong)

/- THE SECOND FORM. 'bulk': how many values and letters a reading holds, each counted each time it is reached (what is shared counts as often as it is met; a slice's spare places count too). A statement '..UptoSaid' is the law's where the arguments, and the package variables that the reading takes, are together of bulk at most 1048576: NARROWER than '..Said'. Prove '..Said' where nothing that the law and all that it calls make is longer than what came in: it says more and counts as full. Else prove '..UptoSaid'. A law counts once. -/
mutual
def uptoBulk {H : Type} : DataW H → Nat
  | .lit (.string bytes) => bytes.length + 1
  | .lit _ => 1
  | .nil => 1
  | .ptr d => uptoBulk d + 1
  | .slice elems spare => uptoBulkAll elems + uptoBulkAll spare + 1
  | .agg parts => uptoBulkAll parts + 1
  | .iface _ d => uptoBulk d + 1
  | .map entries => uptoBulkEntries entries + 1
  | .held _ => 1
def uptoBulkAll {H : Type} : List (DataW H) → Nat
  | [] => 0
  | d :: r => uptoBulk d + uptoBulkAll r
def uptoBulkEntries {H : Type} : List (Lit × DataW H) → Nat
  | [] => 0
  | x :: r => uptoBulkEntry x + uptoBulkEntries r
def uptoBulkEntry {H : Type} : Lit × DataW H → Nat
  | (.string bytes, d) => bytes.length + uptoBulk d + 1
  | (_, d) => uptoBulk d + 1
 end
def uptoSmall : (H : Type) → List (DataW H) → Bool := fun _ ds => decide (uptoBulkAll ds ≤ 1048576)
def OpenSpec.upto (s : _root_.Go.ChangeSpec) : _root_.Go.OpenSpec := { _root_.Go.OpenSpec.ofChange s with cond := some uptoSmall }

/-- 'whimlaw20.PairAll', WHERE WHAT IT READS IS OF BULK AT MOST 1048576: true; the input reads as it did. -/
def pairAllUptoRow : OpenClaim := { program := "ytofbagcfkmofhaa", sum := "a3b825b43db74a68f93e3ca0b890089d90ed4f08bac6b9e590c9d17d4ce56906", func := "whim/whimlaw20.PairAll", spec := "pairAll", plainKeys := false, apart := false, narrowed := true }
def PairAllUptoSaid : Prop := pairAllUptoRow.holds Try.pinned (OpenSpec.upto pairAllSpec)

/-- 'whimlaw20.PairBoth', WHERE WHAT IT READS IS OF BULK AT MOST 1048576: true; the input reads as it did. -/
def pairBothUptoRow : OpenClaim := { program := "ytofbagcfkmofhaa", sum := "a3b825b43db74a68f93e3ca0b890089d90ed4f08bac6b9e590c9d17d4ce56906", func := "whim/whimlaw20.PairBoth", spec := "pairBoth", plainKeys := false, apart := false, narrowed := true }
def PairBothUptoSaid : Prop := pairBothUptoRow.holds Try.pinned (OpenSpec.upto pairBothSpec)

/-- 'whimlaw20.PairLast', WHERE WHAT IT READS IS OF BULK AT MOST 1048576: true; the input reads as it did. -/
def pairLastUptoRow : OpenClaim := { program := "ytofbagcfkmofhaa", sum := "a3b825b43db74a68f93e3ca0b890089d90ed4f08bac6b9e590c9d17d4ce56906", func := "whim/whimlaw20.PairLast", spec := "pairLast", plainKeys := false, apart := false, narrowed := true }
def PairLastUptoSaid : Prop := pairLastUptoRow.holds Try.pinned (OpenSpec.upto pairLastSpec)

end Rows
end Go.Proofs.Ytofbagcfkmofhaa

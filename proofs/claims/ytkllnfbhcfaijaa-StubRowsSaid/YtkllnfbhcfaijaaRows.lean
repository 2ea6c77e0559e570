/-
  No cell of these rows narrows 'for every input' (looked for: loops, veiled, ifaces, maps, wideKeys, modest, calm, conditions, laid).
  DERIVED. THE GIVEN ROWS OF THIS SEAT. 3 by the template 'for every input the law returns true; each argument reads behind the call as it read before'; 0 by the template 'total and deterministic' (their statements: YtkllnfbhcfaijaaTotals.lean).
  GIVEN WITH THE SEED: the statements are not yours to turn. If you find one false, say at which input.
  Laid BY PROGRAM, IN A SANDBOX (cutbox-rows.mjs): the forced cells as the released guide's own fill.sh prints them over the translation 6d91bbdaa72503ef… (all of the seat's roots in one cut). By AI agents, Wed Nov 11 2026. No macro, syntax, notation, axiom, sorry.
-/
import Derived.Test.YtkllnfbhcfaijaaChecked
import GoSem.Claim
import GoSem.ClaimJoined
import GoSem.ClaimMapViews
import Derived.JoinedTies
import Derived.KernelRfl
namespace Go.Proofs.Ytkllnfbhcfaijaa
/- THE CELL 'sum', in the pinned program and in every row, IS THE sha256 OF THE DUMP (.gsa) THAT YtkllnfbhcfaijaaProg.lean LOADS. Nothing in Lean hashes anything: it is a label: what it is worth is what the hold of that sum in a sandbox is worth. -/
noncomputable def Try.pinned : Pinned := { name := "ytkllnfbhcfaijaa", sum := "6d91bbdaa72503ef9a773d8cba71ab3f2ebd94a8c1384af60c9daea11003a5a0", checked := Try.checked }
namespace Rows
def none {H : Type} : Left H := { results := [], args := [] }

/-- 'whimlaw21.StubAll': WHATEVER THE INPUT: true; the input reads as it did. -/
def stubAllSpec : ChangeSpec := { name := "stubAll", fn := fun _ => fun
  | [d1, d2] => { results := [.lit (.bool true)], args := [d1, d2] }
  | _ => none }
def stubAllRow : OpenClaim := { program := "ytkllnfbhcfaijaa", sum := "6d91bbdaa72503ef9a773d8cba71ab3f2ebd94a8c1384af60c9daea11003a5a0", func := "whim/whimlaw21.StubAll", spec := "stubAll", inPlace := ["internal/bytealg.Count", "internal/bytealg.IndexByte", "internal/bytealg.Index"], unfollowed := true, recurses := true, named := ["internal/bytealg.MaxLen"], apart := false }
def StubAllSaid : Prop := stubAllRow.holds Try.pinned (OpenSpec.ofChange stubAllSpec)

/-- ITS FALSE NEIGHBOUR: 'it returns false'. Refute it at one input. -/
def stubAllWrong : ChangeSpec := { name := "stubAll", fn := fun _ => fun
  | [d1, d2] => { results := [.lit (.bool false)], args := [d1, d2] }
  | _ => none }
def StubAllWrongFalsely : Prop := stubAllRow.holds Try.pinned (OpenSpec.ofChange stubAllWrong)

/-- 'whimlaw21.StubRows': WHATEVER THE INPUT: true; the input reads as it did. -/
def stubRowsSpec : ChangeSpec := { name := "stubRows", fn := fun _ => fun
  | [d1, d2, d3] => { results := [.lit (.bool true)], args := [d1, d2, d3] }
  | _ => none }
def stubRowsRow : OpenClaim := { program := "ytkllnfbhcfaijaa", sum := "6d91bbdaa72503ef9a773d8cba71ab3f2ebd94a8c1384af60c9daea11003a5a0", func := "whim/whimlaw21.StubRows", spec := "stubRows", inPlace := ["internal/bytealg.Count", "internal/bytealg.IndexByte", "internal/bytealg.Index"], unfollowed := true, recurses := true, named := ["internal/bytealg.MaxLen"], apart := false }
def StubRowsSaid : Prop := stubRowsRow.holds Try.pinned (OpenSpec.ofChange stubRowsSpec)

/-- ITS FALSE NEIGHBOUR: 'it returns false'. Refute it at one input. -/
def stubRowsWrong : ChangeSpec := { name := "stubRows", fn := fun _ => fun
  | [d1, d2, d3] => { results := [.lit (.bool false)], args := [d1, d2, d3] }
  | _ => none }
def StubRowsWrongFalsely : Prop := stubRowsRow.holds Try.pinned (OpenSpec.ofChange stubRowsWrong)

/-- 'whimlaw21.StubOnce': WHATEVER THE INPUT: true; the input reads as it did. -/
def stubOnceSpec : ChangeSpec := { name := "stubOnce", fn := fun _ => fun
  | [d1, d2, d3, d4] => { results := [.lit (.bool true)], args := [d1, d2, d3, d4] }
  | _ => none }
def stubOnceRow : OpenClaim := { program := "ytkllnfbhcfaijaa", sum := "6d91bbdaa72503ef9a773d8cba71ab3f2ebd94a8c1384af60c9daea11003a5a0", func := "whim/whimlaw21.StubOnce", spec := "stubOnce", inPlace := ["internal/bytealg.Count", "internal/bytealg.IndexByte", "internal/bytealg.Index"], unfollowed := true, recurses := true, named := ["internal/bytealg.MaxLen"], apart := false }
def StubOnceSaid : Prop := stubOnceRow.holds Try.pinned (OpenSpec.ofChange stubOnceSpec)

/-- ITS FALSE NEIGHBOUR: 'it returns false'. Refute it at one input. -/
def stubOnceWrong : ChangeSpec := { name := "stubOnce", fn := fun _ => fun
  | [d1, d2, d3, d4] => { results := [.lit (.bool false)], args := [d1, d2, d3, d4] }
  | _ => none }
def StubOnceWrongFalsely : Prop := stubOnceRow.holds Try.pinned (OpenSpec.ofChange stubOnceWrong)

/- THE SECOND FORM. 'bulk': how many values and letters a reading holds, each counted each time it is reached (what is shared counts as often as it is met; a slice's spare places count too). A statement '..UptoSaid' is the law's where the arguments, and the package variables that the reading takes, are together of bulk at most 1048576: NARROWER than '..Said'. Prove '..Said' where nothing that the law and all that it calls make is longer than what came in: it says more and counts as full. Else prove '..UptoSaid'. A law counts once. -/
mutual
def uptoBulk {H : Type} : DataW H → Nat
  | .lit (.string bytes) => bytes.length + 1
  | .lit _ => 1
  | .nil => 1
  | .ptr d => uptoBulk d + 1
  | .slice elems spare => uptoBulkAll elems + uptoBulkAll spare + 1
  | .agg parts => uptoBulkAll parts + 1
  | .iface _ d => uptoBulk d + 1
  | .map entries => uptoBulkEntries entries + 1
  | .held _ => 1
def uptoBulkAll {H : Type} : List (DataW H) → Nat
  | [] => 0
  | d :: r => uptoBulk d + uptoBulkAll r
def uptoBulkEntries {H : Type} : List (Lit × DataW H) → Nat
  | [] => 0
  | x :: r => uptoBulkEntry x + uptoBulkEntries r
def uptoBulkEntry {H : Type} : Lit × DataW H → Nat
  | (.string bytes, d) => bytes.length + uptoBulk d + 1
  | (_, d) => uptoBulk d + 1
 end
def uptoSmall : (H : Type) → List (DataW H) → Bool := fun _ ds => decide (uptoBulkAll ds ≤ 1048576)
def OpenSpec.upto (s : _root_.Go.ChangeSpec) : _root_.Go.OpenSpec := { _root_.Go.OpenSpec.ofChange s with cond := some uptoSmall }

/-- 'whimlaw21.StubAll', WHERE WHAT IT READS IS OF BULK AT MOST 1048576: true; the input reads as it did. -/
def stubAllUptoRow : OpenClaim := { program := "ytkllnfbhcfaijaa", sum := "6d91bbdaa72503ef9a773d8cba71ab3f2ebd94a8c1384af60c9daea11003a5a0", func := "whim/whimlaw21.StubAll", spec := "stubAll", inPlace := ["internal/bytealg.Count", "internal/bytealg.IndexByte", "internal/bytealg.Index"], unfollowed := true, recurses := true, named := ["internal/bytealg.MaxLen"], apart := false, narrowed := true }
def StubAllUptoSaid : Prop := stubAllUptoRow.holds Try.pinned (OpenSpec.upto stubAllSpec)

/-- 'whimlaw21.StubRows', WHERE WHAT IT READS IS OF BULK AT MOST 1048576: true; the input reads as it did. -/
def stubRowsUptoRow : OpenClaim := { program := "ytkllnfbhcfaijaa", sum := "6d91bbdaa72503ef9a773d8cba71ab3f2ebd94a8c1384af60c9daea11003a5a0", func := "whim/whimlaw21.StubRows", spec := "stubRows", inPlace := ["internal/bytealg.Count", "internal/bytealg.IndexByte", "internal/bytealg.Index"], unfollowed := true, recurses := true, named := ["internal/bytealg.MaxLen"], apart := false, narrowed := true }
def StubRowsUptoSaid : Prop := stubRowsUptoRow.holds Try.pinned (OpenSpec.upto stubRowsSpec)

/-- 'whimlaw21.StubOnce', WHERE WHAT IT READS IS OF BULK AT MOST 1048576: true; the input reads as it did. -/
def stubOnceUptoRow : OpenClaim := { program := "ytkllnfbhcfaijaa", sum := "6d91bbdaa72503ef9a773d8cba71ab3f2ebd94a8c1384af60c9daea11003a5a0", func := "whim/whimlaw21.StubOnce", spec := "stubOnce", inPlace := ["internal/bytealg.Count", "internal/bytealg.IndexByte", "internal/bytealg.Index"], unfollowed := true, recurses := true, named := ["internal/bytealg.MaxLen"], apart := false, narrowed := true }
def StubOnceUptoSaid : Prop := stubOnceUptoRow.holds Try.pinned (OpenSpec.upto stubOnceSpec)

end Rows
end Go.Proofs.Ytkllnfbhcfaijaa

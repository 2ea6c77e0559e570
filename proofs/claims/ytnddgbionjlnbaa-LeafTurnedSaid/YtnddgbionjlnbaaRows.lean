/-
  No cell of these rows narrows 'for every input' (looked for: loops, veiled, ifaces, maps, wideKeys, modest, calm, conditions, laid).
  DERIVED. THE GIVEN ROWS OF THIS SEAT. 7 by the template 'for every input the law returns true; each argument reads behind the call as it read before'; 0 by the template 'total and deterministic' (their statements: YtnddgbionjlnbaaTotals.lean).
  GIVEN WITH THE SEED: the statements are not yours to turn. If you find one false, say at which input.
  Laid BY PROGRAM, IN A SANDBOX (cutbox-rows.mjs): the forced cells as the released guide's own fill.sh prints them over the translation 28ccd1019071bc7b… (all of the seat's roots in one cut). By AI agents, Wed Nov 11 2026. No macro, syntax, notation, axiom, sorry.
-/
import Derived.Test.YtnddgbionjlnbaaChecked
import GoSem.Claim
import GoSem.ClaimJoined
import GoSem.ClaimMapViews
import Derived.JoinedTies
import Derived.KernelRfl
namespace Go.Proofs.Ytnddgbionjlnbaa
/- THE CELL 'sum', in the pinned program and in every row, IS THE sha256 OF THE DUMP (.gsa) THAT YtnddgbionjlnbaaProg.lean LOADS. Nothing in Lean hashes anything: it is a label: what it is worth is what the hold of that sum in a sandbox is worth. -/
noncomputable def Try.pinned : Pinned := { name := "ytnddgbionjlnbaa", sum := "28ccd1019071bc7b886ddb987cfd1e056008fe440170ce9daa30df66ab3dea9b", checked := Try.checked }
namespace Rows
def none {H : Type} : Left H := { results := [], args := [] }

/-- 'whimlaw4.LeafAll': WHATEVER THE INPUT: true; the input reads as it did. -/
def leafAllSpec : ChangeSpec := { name := "leafAll", fn := fun _ => fun
  | [d1, d2, d3, d4] => { results := [.lit (.bool true)], args := [d1, d2, d3, d4] }
  | _ => none }
def leafAllRow : OpenClaim := { program := "ytnddgbionjlnbaa", sum := "28ccd1019071bc7b886ddb987cfd1e056008fe440170ce9daa30df66ab3dea9b", func := "whim/whimlaw4.LeafAll", spec := "leafAll", inPlace := ["internal/bytealg.Count", "internal/bytealg.IndexByte", "internal/bytealg.Index"], unfollowed := true, recurses := true, named := ["internal/bytealg.MaxLen"], apart := false }
def LeafAllSaid : Prop := leafAllRow.holds Try.pinned (OpenSpec.ofChange leafAllSpec)

/-- ITS FALSE NEIGHBOUR: 'it returns false'. Refute it at one input. -/
def leafAllWrong : ChangeSpec := { name := "leafAll", fn := fun _ => fun
  | [d1, d2, d3, d4] => { results := [.lit (.bool false)], args := [d1, d2, d3, d4] }
  | _ => none }
def LeafAllWrongFalsely : Prop := leafAllRow.holds Try.pinned (OpenSpec.ofChange leafAllWrong)

/-- 'whimlaw4.LeafTurned': WHATEVER THE INPUT: true; the input reads as it did. -/
def leafTurnedSpec : ChangeSpec := { name := "leafTurned", fn := fun _ => fun
  | [d1, d2, d3, d4] => { results := [.lit (.bool true)], args := [d1, d2, d3, d4] }
  | _ => none }
def leafTurnedRow : OpenClaim := { program := "ytnddgbionjlnbaa", sum := "28ccd1019071bc7b886ddb987cfd1e056008fe440170ce9daa30df66ab3dea9b", func := "whim/whimlaw4.LeafTurned", spec := "leafTurned", inPlace := ["internal/bytealg.Count", "internal/bytealg.IndexByte", "internal/bytealg.Index"], unfollowed := true, recurses := true, named := ["internal/bytealg.MaxLen"], apart := false }
def LeafTurnedSaid : Prop := leafTurnedRow.holds Try.pinned (OpenSpec.ofChange leafTurnedSpec)

/-- ITS FALSE NEIGHBOUR: 'it returns false'. Refute it at one input. -/
def leafTurnedWrong : ChangeSpec := { name := "leafTurned", fn := fun _ => fun
  | [d1, d2, d3, d4] => { results := [.lit (.bool false)], args := [d1, d2, d3, d4] }
  | _ => none }
def LeafTurnedWrongFalsely : Prop := leafTurnedRow.holds Try.pinned (OpenSpec.ofChange leafTurnedWrong)

/-- 'whimlaw4.LeafBack': WHATEVER THE INPUT: true; the input reads as it did. -/
def leafBackSpec : ChangeSpec := { name := "leafBack", fn := fun _ => fun
  | [d1, d2] => { results := [.lit (.bool true)], args := [d1, d2] }
  | _ => none }
def leafBackRow : OpenClaim := { program := "ytnddgbionjlnbaa", sum := "28ccd1019071bc7b886ddb987cfd1e056008fe440170ce9daa30df66ab3dea9b", func := "whim/whimlaw4.LeafBack", spec := "leafBack", inPlace := ["internal/bytealg.Count", "internal/bytealg.IndexByte", "internal/bytealg.Index"], unfollowed := true, recurses := true, named := ["internal/bytealg.MaxLen"], apart := false }
def LeafBackSaid : Prop := leafBackRow.holds Try.pinned (OpenSpec.ofChange leafBackSpec)

/-- ITS FALSE NEIGHBOUR: 'it returns false'. Refute it at one input. -/
def leafBackWrong : ChangeSpec := { name := "leafBack", fn := fun _ => fun
  | [d1, d2] => { results := [.lit (.bool false)], args := [d1, d2] }
  | _ => none }
def LeafBackWrongFalsely : Prop := leafBackRow.holds Try.pinned (OpenSpec.ofChange leafBackWrong)

/-- 'whimlaw4.LeafSets': WHATEVER THE INPUT: true; the input reads as it did. -/
def leafSetsSpec : ChangeSpec := { name := "leafSets", fn := fun _ => fun
  | [d1, d2, d3, d4, d5] => { results := [.lit (.bool true)], args := [d1, d2, d3, d4, d5] }
  | _ => none }
def leafSetsRow : OpenClaim := { program := "ytnddgbionjlnbaa", sum := "28ccd1019071bc7b886ddb987cfd1e056008fe440170ce9daa30df66ab3dea9b", func := "whim/whimlaw4.LeafSets", spec := "leafSets", inPlace := ["internal/bytealg.Count", "internal/bytealg.IndexByte", "internal/bytealg.Index"], unfollowed := true, recurses := true, named := ["internal/bytealg.MaxLen"], apart := false }
def LeafSetsSaid : Prop := leafSetsRow.holds Try.pinned (OpenSpec.ofChange leafSetsSpec)

/-- ITS FALSE NEIGHBOUR: 'it returns false'. Refute it at one input. -/
def leafSetsWrong : ChangeSpec := { name := "leafSets", fn := fun _ => fun
  | [d1, d2, d3, d4, d5] => { results := [.lit (.bool false)], args := [d1, d2, d3, d4, d5] }
  | _ => none }
def LeafSetsWrongFalsely : Prop := leafSetsRow.holds Try.pinned (OpenSpec.ofChange leafSetsWrong)

/-- 'whimlaw4.LeafOrder': WHATEVER THE INPUT: true; the input reads as it did. -/
def leafOrderSpec : ChangeSpec := { name := "leafOrder", fn := fun _ => fun
  | [d1, d2] => { results := [.lit (.bool true)], args := [d1, d2] }
  | _ => none }
def leafOrderRow : OpenClaim := { program := "ytnddgbionjlnbaa", sum := "28ccd1019071bc7b886ddb987cfd1e056008fe440170ce9daa30df66ab3dea9b", func := "whim/whimlaw4.LeafOrder", spec := "leafOrder", inPlace := ["internal/bytealg.Count", "internal/bytealg.IndexByte", "internal/bytealg.Index"], unfollowed := true, recurses := true, named := ["internal/bytealg.MaxLen"], apart := false }
def LeafOrderSaid : Prop := leafOrderRow.holds Try.pinned (OpenSpec.ofChange leafOrderSpec)

/-- ITS FALSE NEIGHBOUR: 'it returns false'. Refute it at one input. -/
def leafOrderWrong : ChangeSpec := { name := "leafOrder", fn := fun _ => fun
  | [d1, d2] => { results := [.lit (.bool false)], args := [d1, d2] }
  | _ => none }
def LeafOrderWrongFalsely : Prop := leafOrderRow.holds Try.pinned (OpenSpec.ofChange leafOrderWrong)

/-- 'whimlaw4.LeafTears': WHATEVER THE INPUT: true; the input reads as it did. -/
def leafTearsSpec : ChangeSpec := { name := "leafTears", fn := fun _ => fun
  | [d1, d2, d3, d4] => { results := [.lit (.bool true)], args := [d1, d2, d3, d4] }
  | _ => none }
def leafTearsRow : OpenClaim := { program := "ytnddgbionjlnbaa", sum := "28ccd1019071bc7b886ddb987cfd1e056008fe440170ce9daa30df66ab3dea9b", func := "whim/whimlaw4.LeafTears", spec := "leafTears", inPlace := ["internal/bytealg.Count", "internal/bytealg.IndexByte", "internal/bytealg.Index"], unfollowed := true, recurses := true, named := ["internal/bytealg.MaxLen"], apart := false }
def LeafTearsSaid : Prop := leafTearsRow.holds Try.pinned (OpenSpec.ofChange leafTearsSpec)

/-- ITS FALSE NEIGHBOUR: 'it returns false'. Refute it at one input. -/
def leafTearsWrong : ChangeSpec := { name := "leafTears", fn := fun _ => fun
  | [d1, d2, d3, d4] => { results := [.lit (.bool false)], args := [d1, d2, d3, d4] }
  | _ => none }
def LeafTearsWrongFalsely : Prop := leafTearsRow.holds Try.pinned (OpenSpec.ofChange leafTearsWrong)

/-- 'whimlaw4.LeafLent': WHATEVER THE INPUT: true; the input reads as it did. -/
def leafLentSpec : ChangeSpec := { name := "leafLent", fn := fun _ => fun
  | [d1, d2] => { results := [.lit (.bool true)], args := [d1, d2] }
  | _ => none }
def leafLentRow : OpenClaim := { program := "ytnddgbionjlnbaa", sum := "28ccd1019071bc7b886ddb987cfd1e056008fe440170ce9daa30df66ab3dea9b", func := "whim/whimlaw4.LeafLent", spec := "leafLent", inPlace := ["internal/bytealg.Count", "internal/bytealg.IndexByte", "internal/bytealg.Index"], unfollowed := true, recurses := true, named := ["internal/bytealg.MaxLen"], apart := false }
def LeafLentSaid : Prop := leafLentRow.holds Try.pinned (OpenSpec.ofChange leafLentSpec)

/-- ITS FALSE NEIGHBOUR: 'it returns false'. Refute it at one input. -/
def leafLentWrong : ChangeSpec := { name := "leafLent", fn := fun _ => fun
  | [d1, d2] => { results := [.lit (.bool false)], args := [d1, d2] }
  | _ => none }
def LeafLentWrongFalsely : Prop := leafLentRow.holds Try.pinned (OpenSpec.ofChange leafLentWrong)

/- THE SECOND FORM. 'bulk': how many values and letters a reading holds, each counted each time it is reached (what is shared counts as often as it is met; a slice's spare places count too). A statement '..UptoSaid' is the law's where the arguments, and the package variables that the reading takes, are together of bulk at most 1048576: NARROWER than '..Said'. Prove '..Said' where nothing that the law and all that it calls make is longer than what came in: it says more and counts as full. Else prove '..UptoSaid'. A law counts once. -/
mutual
def uptoBulk {H : Type} : DataW H → Nat
  | .lit (.string bytes) => bytes.length + 1
  | .lit _ => 1
  | .nil => 1
  | .ptr d => uptoBulk d + 1
  | .slice elems spare => uptoBulkAll elems + uptoBulkAll spare + 1
  | .agg parts => uptoBulkAll parts + 1
  | .iface _ d => uptoBulk d + 1
  | .map entries => uptoBulkEntries entries + 1
  | .held _ => 1
def uptoBulkAll {H : Type} : List (DataW H) → Nat
  | [] => 0
  | d :: r => uptoBulk d + uptoBulkAll r
def uptoBulkEntries {H : Type} : List (Lit × DataW H) → Nat
  | [] => 0
  | x :: r => uptoBulkEntry x + uptoBulkEntries r
def uptoBulkEntry {H : Type} : Lit × DataW H → Nat
  | (.string bytes, d) => bytes.length + uptoBulk d + 1
  | (_, d) => uptoBulk d + 1
 end
def uptoSmall : (H : Type) → List (DataW H) → Bool := fun _ ds => decide (uptoBulkAll ds ≤ 1048576)
def OpenSpec.upto (s : _root_.Go.ChangeSpec) : _root_.Go.OpenSpec := { _root_.Go.OpenSpec.ofChange s with cond := some uptoSmall }

/-- 'whimlaw4.LeafAll', WHERE WHAT IT READS IS OF BULK AT MOST 1048576: true; the input reads as it did. -/
def leafAllUptoRow : OpenClaim := { program := "ytnddgbionjlnbaa", sum := "28ccd1019071bc7b886ddb987cfd1e056008fe440170ce9daa30df66ab3dea9b", func := "whim/whimlaw4.LeafAll", spec := "leafAll", inPlace := ["internal/bytealg.Count", "internal/bytealg.IndexByte", "internal/bytealg.Index"], unfollowed := true, recurses := true, named := ["internal/bytealg.MaxLen"], apart := false, narrowed := true }
def LeafAllUptoSaid : Prop := leafAllUptoRow.holds Try.pinned (OpenSpec.upto leafAllSpec)

/-- 'whimlaw4.LeafTurned', WHERE WHAT IT READS IS OF BULK AT MOST 1048576: true; the input reads as it did. -/
def leafTurnedUptoRow : OpenClaim := { program := "ytnddgbionjlnbaa", sum := "28ccd1019071bc7b886ddb987cfd1e056008fe440170ce9daa30df66ab3dea9b", func := "whim/whimlaw4.LeafTurned", spec := "leafTurned", inPlace := ["internal/bytealg.Count", "internal/bytealg.IndexByte", "internal/bytealg.Index"], unfollowed := true, recurses := true, named := ["internal/bytealg.MaxLen"], apart := false, narrowed := true }
def LeafTurnedUptoSaid : Prop := leafTurnedUptoRow.holds Try.pinned (OpenSpec.upto leafTurnedSpec)

/-- 'whimlaw4.LeafBack', WHERE WHAT IT READS IS OF BULK AT MOST 1048576: true; the input reads as it did. -/
def leafBackUptoRow : OpenClaim := { program := "ytnddgbionjlnbaa", sum := "28ccd1019071bc7b886ddb987cfd1e056008fe440170ce9daa30df66ab3dea9b", func := "whim/whimlaw4.LeafBack", spec := "leafBack", inPlace := ["internal/bytealg.Count", "internal/bytealg.IndexByte", "internal/bytealg.Index"], unfollowed := true, recurses := true, named := ["internal/bytealg.MaxLen"], apart := false, narrowed := true }
def LeafBackUptoSaid : Prop := leafBackUptoRow.holds Try.pinned (OpenSpec.upto leafBackSpec)

/-- 'whimlaw4.LeafSets', WHERE WHAT IT READS IS OF BULK AT MOST 1048576: true; the input reads as it did. -/
def leafSetsUptoRow : OpenClaim := { program := "ytnddgbionjlnbaa", sum := "28ccd1019071bc7b886ddb987cfd1e056008fe440170ce9daa30df66ab3dea9b", func := "whim/whimlaw4.LeafSets", spec := "leafSets", inPlace := ["internal/bytealg.Count", "internal/bytealg.IndexByte", "internal/bytealg.Index"], unfollowed := true, recurses := true, named := ["internal/bytealg.MaxLen"], apart := false, narrowed := true }
def LeafSetsUptoSaid : Prop := leafSetsUptoRow.holds Try.pinned (OpenSpec.upto leafSetsSpec)

/-- 'whimlaw4.LeafOrder', WHERE WHAT IT READS IS OF BULK AT MOST 1048576: true; the input reads as it did. -/
def leafOrderUptoRow : OpenClaim := { program := "ytnddgbionjlnbaa", sum := "28ccd1019071bc7b886ddb987cfd1e056008fe440170ce9daa30df66ab3dea9b", func := "whim/whimlaw4.LeafOrder", spec := "leafOrder", inPlace := ["internal/bytealg.Count", "internal/bytealg.IndexByte", "internal/bytealg.Index"], unfollowed := true, recurses := true, named := ["internal/bytealg.MaxLen"], apart := false, narrowed := true }
def LeafOrderUptoSaid : Prop := leafOrderUptoRow.holds Try.pinned (OpenSpec.upto leafOrderSpec)

/-- 'whimlaw4.LeafTears', WHERE WHAT IT READS IS OF BULK AT MOST 1048576: true; the input reads as it did. -/
def leafTearsUptoRow : OpenClaim := { program := "ytnddgbionjlnbaa", sum := "28ccd1019071bc7b886ddb987cfd1e056008fe440170ce9daa30df66ab3dea9b", func := "whim/whimlaw4.LeafTears", spec := "leafTears", inPlace := ["internal/bytealg.Count", "internal/bytealg.IndexByte", "internal/bytealg.Index"], unfollowed := true, recurses := true, named := ["internal/bytealg.MaxLen"], apart := false, narrowed := true }
def LeafTearsUptoSaid : Prop := leafTearsUptoRow.holds Try.pinned (OpenSpec.upto leafTearsSpec)

/-- 'whimlaw4.LeafLent', WHERE WHAT IT READS IS OF BULK AT MOST 1048576: true; the input reads as it did. -/
def leafLentUptoRow : OpenClaim := { program := "ytnddgbionjlnbaa", sum := "28ccd1019071bc7b886ddb987cfd1e056008fe440170ce9daa30df66ab3dea9b", func := "whim/whimlaw4.LeafLent", spec := "leafLent", inPlace := ["internal/bytealg.Count", "internal/bytealg.IndexByte", "internal/bytealg.Index"], unfollowed := true, recurses := true, named := ["internal/bytealg.MaxLen"], apart := false, narrowed := true }
def LeafLentUptoSaid : Prop := leafLentUptoRow.holds Try.pinned (OpenSpec.upto leafLentSpec)

end Rows
end Go.Proofs.Ytnddgbionjlnbaa

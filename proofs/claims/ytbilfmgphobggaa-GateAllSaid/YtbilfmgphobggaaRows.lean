/-
  No cell of these rows narrows 'for every input' (looked for: loops, veiled, ifaces, maps, wideKeys, modest, calm, conditions, laid).
  DERIVED. THE GIVEN ROWS OF THIS SEAT. 3 by the template 'for every input the law returns true; each argument reads behind the call as it read before'; 0 by the template 'total and deterministic' (their statements: YtbilfmgphobggaaTotals.lean).
  GIVEN WITH THE SEED: the statements are not yours to turn. If you find one false, say at which input.
  Laid BY PROGRAM, IN A SANDBOX (cutbox-rows.mjs): the forced cells as the released guide's own fill.sh prints them over the translation 3697556b5b212c4b… (all of the seat's roots in one cut). By AI agents, Wed Nov 11 2026. No macro, syntax, notation, axiom, sorry.
-/
import Derived.Test.YtbilfmgphobggaaChecked
import GoSem.Claim
import GoSem.ClaimJoined
import GoSem.ClaimMapViews
import Derived.JoinedTies
import Derived.KernelRfl
namespace Go.Proofs.Ytbilfmgphobggaa
/- THE CELL 'sum', in the pinned program and in every row, IS THE sha256 OF THE DUMP (.gsa) THAT YtbilfmgphobggaaProg.lean LOADS. Nothing in Lean hashes anything: it is a label: what it is worth is what the hold of that sum in a sandbox is worth. -/
noncomputable def Try.pinned : Pinned := { name := "ytbilfmgphobggaa", sum := "3697556b5b212c4b3025f482adf744e495c8539b1fa36d8237aa83c9bb623b22", checked := Try.checked }
namespace Rows
def none {H : Type} : Left H := { results := [], args := [] }

/-- 'whimlaw26.GateAll': WHATEVER THE INPUT: true; the input reads as it did. -/
def gateAllSpec : ChangeSpec := { name := "gateAll", fn := fun _ => fun
  | [d1, d2] => { results := [.lit (.bool true)], args := [d1, d2] }
  | _ => none }
def gateAllRow : OpenClaim := { program := "ytbilfmgphobggaa", sum := "3697556b5b212c4b3025f482adf744e495c8539b1fa36d8237aa83c9bb623b22", func := "whim/whimlaw26.GateAll", spec := "gateAll", apart := false }
def GateAllSaid : Prop := gateAllRow.holds Try.pinned (OpenSpec.ofChange gateAllSpec)

/-- ITS FALSE NEIGHBOUR: 'it returns false'. Refute it at one input. -/
def gateAllWrong : ChangeSpec := { name := "gateAll", fn := fun _ => fun
  | [d1, d2] => { results := [.lit (.bool false)], args := [d1, d2] }
  | _ => none }
def GateAllWrongFalsely : Prop := gateAllRow.holds Try.pinned (OpenSpec.ofChange gateAllWrong)

/-- 'whimlaw26.GateNone': WHATEVER THE INPUT: true; the input reads as it did. -/
def gateNoneSpec : ChangeSpec := { name := "gateNone", fn := fun _ => fun
  | [] => { results := [.lit (.bool true)], args := [] }
  | _ => none }
def gateNoneRow : OpenClaim := { program := "ytbilfmgphobggaa", sum := "3697556b5b212c4b3025f482adf744e495c8539b1fa36d8237aa83c9bb623b22", func := "whim/whimlaw26.GateNone", spec := "gateNone", apart := false }
def GateNoneSaid : Prop := gateNoneRow.holds Try.pinned (OpenSpec.ofChange gateNoneSpec)

/-- ITS FALSE NEIGHBOUR: 'it returns false'. Refute it at one input. -/
def gateNoneWrong : ChangeSpec := { name := "gateNone", fn := fun _ => fun
  | [] => { results := [.lit (.bool false)], args := [] }
  | _ => none }
def GateNoneWrongFalsely : Prop := gateNoneRow.holds Try.pinned (OpenSpec.ofChange gateNoneWrong)

/-- 'whimlaw26.GateTurns': WHATEVER THE INPUT: true; the input reads as it did. -/
def gateTurnsSpec : ChangeSpec := { name := "gateTurns", fn := fun _ => fun
  | [d] => { results := [.lit (.bool true)], args := [d] }
  | _ => none }
def gateTurnsRow : OpenClaim := { program := "ytbilfmgphobggaa", sum := "3697556b5b212c4b3025f482adf744e495c8539b1fa36d8237aa83c9bb623b22", func := "whim/whimlaw26.GateTurns", spec := "gateTurns", apart := false }
def GateTurnsSaid : Prop := gateTurnsRow.holds Try.pinned (OpenSpec.ofChange gateTurnsSpec)

/-- ITS FALSE NEIGHBOUR: 'it returns false'. Refute it at one input. -/
def gateTurnsWrong : ChangeSpec := { name := "gateTurns", fn := fun _ => fun
  | [d] => { results := [.lit (.bool false)], args := [d] }
  | _ => none }
def GateTurnsWrongFalsely : Prop := gateTurnsRow.holds Try.pinned (OpenSpec.ofChange gateTurnsWrong)

/- THE SECOND FORM. 'bulk': how many values and letters a reading holds, each counted each time it is reached (what is shared counts as often as it is met; a slice's spare places count too). A statement '..UptoSaid' is the law's where the arguments, and the package variables that the reading takes, are together of bulk at most 1048576: NARROWER than '..Said'. Prove '..Said' where nothing that the law and all that it calls make is longer than what came in: it says more and counts as full. Else prove '..UptoSaid'. A law counts once. -/
mutual
def uptoBulk {H : Type} : DataW H → Nat
  | .lit (.string bytes) => bytes.length + 1
  | .lit _ => 1
  | .nil => 1
  | .ptr d => uptoBulk d + 1
  | .slice elems spare => uptoBulkAll elems + uptoBulkAll spare + 1
  | .agg parts => uptoBulkAll parts + 1
  | .iface _ d => uptoBulk d + 1
  | .map entries => uptoBulkEntries entries + 1
  | .held _ => 1
def uptoBulkAll {H : Type} : List (DataW H) → Nat
  | [] => 0
  | d :: r => uptoBulk d + uptoBulkAll r
def uptoBulkEntries {H : Type} : List (Lit × DataW H) → Nat
  | [] => 0
  | x :: r => uptoBulkEntry x + uptoBulkEntries r
def uptoBulkEntry {H : Type} : Lit × DataW H → Nat
  | (.string bytes, d) => bytes.length + uptoBulk d + 1
  | (_, d) => uptoBulk d + 1
 end
def uptoSmall : (H : Type) → List (DataW H) → Bool := fun _ ds => decide (uptoBulkAll ds ≤ 1048576)
def OpenSpec.upto (s : _root_.Go.ChangeSpec) : _root_.Go.OpenSpec := { _root_.Go.OpenSpec.ofChange s with cond := some uptoSmall }

/-- 'whimlaw26.GateAll', WHERE WHAT IT READS IS OF BULK AT MOST 1048576: true; the input reads as it did. -/
def gateAllUptoRow : OpenClaim := { program := "ytbilfmgphobggaa", sum := "3697556b5b212c4b3025f482adf744e495c8539b1fa36d8237aa83c9bb623b22", func := "whim/whimlaw26.GateAll", spec := "gateAll", apart := false, narrowed := true }
def GateAllUptoSaid : Prop := gateAllUptoRow.holds Try.pinned (OpenSpec.upto gateAllSpec)

/-- 'whimlaw26.GateNone', WHERE WHAT IT READS IS OF BULK AT MOST 1048576: true; the input reads as it did. -/
def gateNoneUptoRow : OpenClaim := { program := "ytbilfmgphobggaa", sum := "3697556b5b212c4b3025f482adf744e495c8539b1fa36d8237aa83c9bb623b22", func := "whim/whimlaw26.GateNone", spec := "gateNone", apart := false, narrowed := true }
def GateNoneUptoSaid : Prop := gateNoneUptoRow.holds Try.pinned (OpenSpec.upto gateNoneSpec)

/-- 'whimlaw26.GateTurns', WHERE WHAT IT READS IS OF BULK AT MOST 1048576: true; the input reads as it did. -/
def gateTurnsUptoRow : OpenClaim := { program := "ytbilfmgphobggaa", sum := "3697556b5b212c4b3025f482adf744e495c8539b1fa36d8237aa83c9bb623b22", func := "whim/whimlaw26.GateTurns", spec := "gateTurns", apart := false, narrowed := true }
def GateTurnsUptoSaid : Prop := gateTurnsUptoRow.holds Try.pinned (OpenSpec.upto gateTurnsSpec)

end Rows
end Go.Proofs.Ytbilfmgphobggaa

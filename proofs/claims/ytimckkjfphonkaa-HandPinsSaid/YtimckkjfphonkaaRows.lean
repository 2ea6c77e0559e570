/-
  No cell of these rows narrows 'for every input' (looked for: loops, veiled, ifaces, maps, wideKeys, modest, calm, conditions, laid).
  DERIVED. THE GIVEN ROWS OF THIS SEAT. 6 by the template 'for every input the law returns true; each argument reads behind the call as it read before'; 0 by the template 'total and deterministic' (their statements: YtimckkjfphonkaaTotals.lean).
  GIVEN WITH THE SEED: the statements are not yours to turn. If you find one false, say at which input.
  Laid BY PROGRAM, IN A SANDBOX (cutbox-rows.mjs): the forced cells as the released guide's own fill.sh prints them over the translation 815e39f3cab641d0… (all of the seat's roots in one cut). By AI agents, Wed Nov 11 2026. No macro, syntax, notation, axiom, sorry.
-/
import Derived.Test.YtimckkjfphonkaaChecked
import GoSem.Claim
import GoSem.ClaimJoined
import GoSem.ClaimMapViews
import Derived.JoinedTies
import Derived.KernelRfl
namespace Go.Proofs.Ytimckkjfphonkaa
/- THE CELL 'sum', in the pinned program and in every row, IS THE sha256 OF THE DUMP (.gsa) THAT YtimckkjfphonkaaProg.lean LOADS. Nothing in Lean hashes anything: it is a label: what it is worth is what the hold of that sum in a sandbox is worth. -/
noncomputable def Try.pinned : Pinned := { name := "ytimckkjfphonkaa", sum := "815e39f3cab641d0e12b80dd49e7672e1f833ce66ff5de68064fd41a35b94dca", checked := Try.checked }
namespace Rows
def none {H : Type} : Left H := { results := [], args := [] }

/-- 'whimlaw7.HandAll': WHATEVER THE INPUT: true; the input reads as it did. -/
def handAllSpec : ChangeSpec := { name := "handAll", fn := fun _ => fun
  | [d1, d2] => { results := [.lit (.bool true)], args := [d1, d2] }
  | _ => none }
def handAllRow : OpenClaim := { program := "ytimckkjfphonkaa", sum := "815e39f3cab641d0e12b80dd49e7672e1f833ce66ff5de68064fd41a35b94dca", func := "whim/whimlaw7.HandAll", spec := "handAll", unfollowed := true, recurses := true, apart := false }
def HandAllSaid : Prop := handAllRow.holds Try.pinned (OpenSpec.ofChange handAllSpec)

/-- ITS FALSE NEIGHBOUR: 'it returns false'. Refute it at one input. -/
def handAllWrong : ChangeSpec := { name := "handAll", fn := fun _ => fun
  | [d1, d2] => { results := [.lit (.bool false)], args := [d1, d2] }
  | _ => none }
def HandAllWrongFalsely : Prop := handAllRow.holds Try.pinned (OpenSpec.ofChange handAllWrong)

/-- 'whimlaw7.HandPins': WHATEVER THE INPUT: true; the input reads as it did. -/
def handPinsSpec : ChangeSpec := { name := "handPins", fn := fun _ => fun
  | [d1, d2, d3] => { results := [.lit (.bool true)], args := [d1, d2, d3] }
  | _ => none }
def handPinsRow : OpenClaim := { program := "ytimckkjfphonkaa", sum := "815e39f3cab641d0e12b80dd49e7672e1f833ce66ff5de68064fd41a35b94dca", func := "whim/whimlaw7.HandPins", spec := "handPins", unfollowed := true, recurses := true, apart := false }
def HandPinsSaid : Prop := handPinsRow.holds Try.pinned (OpenSpec.ofChange handPinsSpec)

/-- ITS FALSE NEIGHBOUR: 'it returns false'. Refute it at one input. -/
def handPinsWrong : ChangeSpec := { name := "handPins", fn := fun _ => fun
  | [d1, d2, d3] => { results := [.lit (.bool false)], args := [d1, d2, d3] }
  | _ => none }
def HandPinsWrongFalsely : Prop := handPinsRow.holds Try.pinned (OpenSpec.ofChange handPinsWrong)

/-- 'whimlaw7.HandRound': WHATEVER THE INPUT: true; the input reads as it did. -/
def handRoundSpec : ChangeSpec := { name := "handRound", fn := fun _ => fun
  | [d] => { results := [.lit (.bool true)], args := [d] }
  | _ => none }
def handRoundRow : OpenClaim := { program := "ytimckkjfphonkaa", sum := "815e39f3cab641d0e12b80dd49e7672e1f833ce66ff5de68064fd41a35b94dca", func := "whim/whimlaw7.HandRound", spec := "handRound", unfollowed := true, recurses := true, apart := false }
def HandRoundSaid : Prop := handRoundRow.holds Try.pinned (OpenSpec.ofChange handRoundSpec)

/-- ITS FALSE NEIGHBOUR: 'it returns false'. Refute it at one input. -/
def handRoundWrong : ChangeSpec := { name := "handRound", fn := fun _ => fun
  | [d] => { results := [.lit (.bool false)], args := [d] }
  | _ => none }
def HandRoundWrongFalsely : Prop := handRoundRow.holds Try.pinned (OpenSpec.ofChange handRoundWrong)

/-- 'whimlaw7.HandLast': WHATEVER THE INPUT: true; the input reads as it did. -/
def handLastSpec : ChangeSpec := { name := "handLast", fn := fun _ => fun
  | [d1, d2] => { results := [.lit (.bool true)], args := [d1, d2] }
  | _ => none }
def handLastRow : OpenClaim := { program := "ytimckkjfphonkaa", sum := "815e39f3cab641d0e12b80dd49e7672e1f833ce66ff5de68064fd41a35b94dca", func := "whim/whimlaw7.HandLast", spec := "handLast", unfollowed := true, recurses := true, apart := false }
def HandLastSaid : Prop := handLastRow.holds Try.pinned (OpenSpec.ofChange handLastSpec)

/-- ITS FALSE NEIGHBOUR: 'it returns false'. Refute it at one input. -/
def handLastWrong : ChangeSpec := { name := "handLast", fn := fun _ => fun
  | [d1, d2] => { results := [.lit (.bool false)], args := [d1, d2] }
  | _ => none }
def HandLastWrongFalsely : Prop := handLastRow.holds Try.pinned (OpenSpec.ofChange handLastWrong)

/-- 'whimlaw7.HandRoom': WHATEVER THE INPUT: true; the input reads as it did. -/
def handRoomSpec : ChangeSpec := { name := "handRoom", fn := fun _ => fun
  | [d1, d2] => { results := [.lit (.bool true)], args := [d1, d2] }
  | _ => none }
def handRoomRow : OpenClaim := { program := "ytimckkjfphonkaa", sum := "815e39f3cab641d0e12b80dd49e7672e1f833ce66ff5de68064fd41a35b94dca", func := "whim/whimlaw7.HandRoom", spec := "handRoom", unfollowed := true, recurses := true, apart := false }
def HandRoomSaid : Prop := handRoomRow.holds Try.pinned (OpenSpec.ofChange handRoomSpec)

/-- ITS FALSE NEIGHBOUR: 'it returns false'. Refute it at one input. -/
def handRoomWrong : ChangeSpec := { name := "handRoom", fn := fun _ => fun
  | [d1, d2] => { results := [.lit (.bool false)], args := [d1, d2] }
  | _ => none }
def HandRoomWrongFalsely : Prop := handRoomRow.holds Try.pinned (OpenSpec.ofChange handRoomWrong)

/-- 'whimlaw7.HandDrops': WHATEVER THE INPUT: true; the input reads as it did. -/
def handDropsSpec : ChangeSpec := { name := "handDrops", fn := fun _ => fun
  | [d1, d2, d3] => { results := [.lit (.bool true)], args := [d1, d2, d3] }
  | _ => none }
def handDropsRow : OpenClaim := { program := "ytimckkjfphonkaa", sum := "815e39f3cab641d0e12b80dd49e7672e1f833ce66ff5de68064fd41a35b94dca", func := "whim/whimlaw7.HandDrops", spec := "handDrops", unfollowed := true, recurses := true, apart := false }
def HandDropsSaid : Prop := handDropsRow.holds Try.pinned (OpenSpec.ofChange handDropsSpec)

/-- ITS FALSE NEIGHBOUR: 'it returns false'. Refute it at one input. -/
def handDropsWrong : ChangeSpec := { name := "handDrops", fn := fun _ => fun
  | [d1, d2, d3] => { results := [.lit (.bool false)], args := [d1, d2, d3] }
  | _ => none }
def HandDropsWrongFalsely : Prop := handDropsRow.holds Try.pinned (OpenSpec.ofChange handDropsWrong)

/- THE SECOND FORM. 'bulk': how many values and letters a reading holds, each counted each time it is reached (what is shared counts as often as it is met; a slice's spare places count too). A statement '..UptoSaid' is the law's where the arguments, and the package variables that the reading takes, are together of bulk at most 1048576: NARROWER than '..Said'. Prove '..Said' where nothing that the law and all that it calls make is longer than what came in: it says more and counts as full. Else prove '..UptoSaid'. A law counts once. -/
mutual
def uptoBulk {H : Type} : DataW H → Nat
  | .lit (.string bytes) => bytes.length + 1
  | .lit _ => 1
  | .nil => 1
  | .ptr d => uptoBulk d + 1
  | .slice elems spare => uptoBulkAll elems + uptoBulkAll spare + 1
  | .agg parts => uptoBulkAll parts + 1
  | .iface _ d => uptoBulk d + 1
  | .map entries => uptoBulkEntries entries + 1
  | .held _ => 1
def uptoBulkAll {H : Type} : List (DataW H) → Nat
  | [] => 0
  | d :: r => uptoBulk d + uptoBulkAll r
def uptoBulkEntries {H : Type} : List (Lit × DataW H) → Nat
  | [] => 0
  | x :: r => uptoBulkEntry x + uptoBulkEntries r
def uptoBulkEntry {H : Type} : Lit × DataW H → Nat
  | (.string bytes, d) => bytes.length + uptoBulk d + 1
  | (_, d) => uptoBulk d + 1
 end
def uptoSmall : (H : Type) → List (DataW H) → Bool := fun _ ds => decide (uptoBulkAll ds ≤ 1048576)
def OpenSpec.upto (s : _root_.Go.ChangeSpec) : _root_.Go.OpenSpec := { _root_.Go.OpenSpec.ofChange s with cond := some uptoSmall }

/-- 'whimlaw7.HandAll', WHERE WHAT IT READS IS OF BULK AT MOST 1048576: true; the input reads as it did. -/
def handAllUptoRow : OpenClaim := { program := "ytimckkjfphonkaa", sum := "815e39f3cab641d0e12b80dd49e7672e1f833ce66ff5de68064fd41a35b94dca", func := "whim/whimlaw7.HandAll", spec := "handAll", unfollowed := true, recurses := true, apart := false, narrowed := true }
def HandAllUptoSaid : Prop := handAllUptoRow.holds Try.pinned (OpenSpec.upto handAllSpec)

/-- 'whimlaw7.HandPins', WHERE WHAT IT READS IS OF BULK AT MOST 1048576: true; the input reads as it did. -/
def handPinsUptoRow : OpenClaim := { program := "ytimckkjfphonkaa", sum := "815e39f3cab641d0e12b80dd49e7672e1f833ce66ff5de68064fd41a35b94dca", func := "whim/whimlaw7.HandPins", spec := "handPins", unfollowed := true, recurses := true, apart := false, narrowed := true }
def HandPinsUptoSaid : Prop := handPinsUptoRow.holds Try.pinned (OpenSpec.upto handPinsSpec)

/-- 'whimlaw7.HandRound', WHERE WHAT IT READS IS OF BULK AT MOST 1048576: true; the input reads as it did. -/
def handRoundUptoRow : OpenClaim := { program := "ytimckkjfphonkaa", sum := "815e39f3cab641d0e12b80dd49e7672e1f833ce66ff5de68064fd41a35b94dca", func := "whim/whimlaw7.HandRound", spec := "handRound", unfollowed := true, recurses := true, apart := false, narrowed := true }
def HandRoundUptoSaid : Prop := handRoundUptoRow.holds Try.pinned (OpenSpec.upto handRoundSpec)

/-- 'whimlaw7.HandLast', WHERE WHAT IT READS IS OF BULK AT MOST 1048576: true; the input reads as it did. -/
def handLastUptoRow : OpenClaim := { program := "ytimckkjfphonkaa", sum := "815e39f3cab641d0e12b80dd49e7672e1f833ce66ff5de68064fd41a35b94dca", func := "whim/whimlaw7.HandLast", spec := "handLast", unfollowed := true, recurses := true, apart := false, narrowed := true }
def HandLastUptoSaid : Prop := handLastUptoRow.holds Try.pinned (OpenSpec.upto handLastSpec)

/-- 'whimlaw7.HandRoom', WHERE WHAT IT READS IS OF BULK AT MOST 1048576: true; the input reads as it did. -/
def handRoomUptoRow : OpenClaim := { program := "ytimckkjfphonkaa", sum := "815e39f3cab641d0e12b80dd49e7672e1f833ce66ff5de68064fd41a35b94dca", func := "whim/whimlaw7.HandRoom", spec := "handRoom", unfollowed := true, recurses := true, apart := false, narrowed := true }
def HandRoomUptoSaid : Prop := handRoomUptoRow.holds Try.pinned (OpenSpec.upto handRoomSpec)

/-- 'whimlaw7.HandDrops', WHERE WHAT IT READS IS OF BULK AT MOST 1048576: true; the input reads as it did. -/
def handDropsUptoRow : OpenClaim := { program := "ytimckkjfphonkaa", sum := "815e39f3cab641d0e12b80dd49e7672e1f833ce66ff5de68064fd41a35b94dca", func := "whim/whimlaw7.HandDrops", spec := "handDrops", unfollowed := true, recurses := true, apart := false, narrowed := true }
def HandDropsUptoSaid : Prop := handDropsUptoRow.holds Try.pinned (OpenSpec.upto handDropsSpec)

end Rows
end Go.Proofs.Ytimckkjfphonkaa

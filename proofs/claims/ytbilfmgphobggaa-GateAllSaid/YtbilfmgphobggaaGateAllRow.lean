import Derived.Test.YtbilfmgphobggaaGateAll
import Derived.Test.YtbilfmgphobggaaSxRow
import Derived.Test.YtbilfmgphobggaaRows
set_option linter.unusedVariables false
set_option linter.unusedSimpArgs false
namespace Go.Proofs.Ytbilfmgphobggaa
open Sx Go.ChangeShapes Go.WideShapes Go.ChangeAt Go.RowKit

theorem gateAll_own : ownKnob Try.prog.godebug = none := by kernel_rfl
theorem gateAll_laidOut : laidOutB Try.prog = true := by kernel_rfl
theorem gateAll_bool : Try.prog.underlying 4 = some .bool := by kernel_rfl
theorem gateAll_fits : fitsAll Try.prog [i64sh, .slice ddsh] Try.f3.params.toList = true := by kernel_rfl
theorem gateAll_reads : (Try.f3.params.toList.all fun t => Try.prog.readableRec t && decide (t < Try.prog.types.size)) = true := by kernel_rfl

set_option maxRecDepth 100000 in
theorem gateAll_lifted (os : Os) (started : os.Started) (H : Type) (enc : TypeId × Value → H) :
    ReturnsInHanded {} Try.checked os 3 .any (Rows.gateAllSpec.pre6 enc Try.prog Try.f3 Rows.gateAllRow.domain false) (Rows.gateAllSpec.post enc Try.prog Try.f3 false true false false) := by
  refine returnsInHanded_of_change_sized (C := Try.checked) gateAll_own started (by kernel_rfl) Try.func3
    (ChangeSpec.witness6 (enc := enc) (C := Try.checked) false ⟨#[], #[.int .i64 0, .slice none 0 0], []⟩ 8 (by kernel_rfl) (by kernel_rfl) (by kernel_rfl) (by kernel_rfl)) ?_
  intro W base args ds gs before hval0 hW hcnd hsz _
  have hW' := hW
  obtain ⟨p, q, hA0, hV, rfl, hfz, hnd⟩ := hW
  have hA : DataW.TrodAll enc Try.prog W 0 (fun _ => true) true Try.f3.params.toList args.toList ds p := hA0
  have hval : ∀ (j : Nat) t v, Try.f3.params.toList[j]? = some t → args.toList[j]? = some v → Value.okWide Try.prog W .any base t v := fun j t v h1 h2 => hval0 j t v (by rw [← Array.getElem?_toList]; exact h1) (by rw [← Array.getElem?_toList]; exact h2)
  obtain ⟨rfl, rfl⟩ := trodVars_none hV
  have hsz' : (DataW.weightsEach Try.prog Try.f3.params.toList ds).all (· ≤ reachBytes) = true := by
    have := hsz
    rw [List.append_nil, show Rows.gateAllSpec.plain.varTypes Try.checked.prog = [] from rfl, List.append_nil] at this
    exact this
  simp only [List.append_nil] at hW'
  have hcall := law_calls (P := Try.prog) (id := 3) gateAll_fits law_gateAll hval hA hsz'
  rw [Array.toArray_toList] at hcall
  refine hcall.mono fun e W' ⟨he, hB⟩ => ?_
  subst he
  have hlt : ∀ x ∈ p, x.block < W.heap.size := fun x hx => by simpa using hW'.lt x hx
  have hback := below_trodAll gateAll_laidOut hB _ _ _ _ gateAll_reads hlt hA

  have hA0 := hA
  rw [Try.params3] at hA0
  obtain ⟨v0, vs0, d0, ds0, p0, q0, hv0, rfl, hp0, _, hA1⟩ := trodAll_cons hA0
  obtain ⟨v1, vs1, d1, ds1, p1, q1, hv1, rfl, hp1, _, hA2⟩ := trodAll_cons hA1
  obtain ⟨_, rfl, _⟩ := trodAll_nil hA2
  exact ⟨_, rfl, _, _, _, [], p, [], hW', trodAll_mk1 (shut_bool gateAll_bool true), hback, rfl, hB.frame _, fun h => by cases h⟩

theorem gateAll_holds : Rows.GateAllSaid :=
  OpenClaim.holds_of_wide 3 Try.f3 rfl rfl rfl rfl rfl rfl rfl ⟨rfl, rfl, rfl, rfl, rfl⟩ rfl rfl rfl rfl rfl (by kernel_rfl) Try.func3 (by kernel_rfl)
    (of_decide_eq_true (by kernel_rfl)) (by unfold Func.isWrapper; first | (rw [if_pos (by decide +kernel)]; kernel_rfl) | (rw [if_neg (by decide +kernel)]; exact ⟨rfl, rfl⟩))
    (fun os started H enc _ => gateAll_lifted os started H enc)

end Go.Proofs.Ytbilfmgphobggaa

import Derived.Test.YtbhefgajgdcajaaEntLengths
import Derived.Test.YtbhefgajgdcajaaSxRow
import Derived.Test.YtbhefgajgdcajaaRows
set_option linter.unusedVariables false
set_option linter.unusedSimpArgs false
namespace Go.Proofs.Ytbhefgajgdcajaa
open Sx Go.ChangeShapes Go.WideShapes Go.ChangeAt Go.RowKit

theorem entryLengths_own : ownKnob Try.prog.godebug = none := by kernel_rfl
theorem entryLengths_laidOut : laidOutB Try.prog = true := by kernel_rfl
theorem entryLengths_bool : Try.prog.underlying 4 = some .bool := by kernel_rfl
theorem entryLengths_fits : fitsAll Try.prog [.int .u8, .int .u8, .int .u8, .int .u8, .bool, .bool] Try.f8.params.toList = true := by kernel_rfl
theorem entryLengths_reads : (Try.f8.params.toList.all fun t => Try.prog.readableRec t && decide (t < Try.prog.types.size)) = true := by kernel_rfl

set_option maxRecDepth 100000 in
theorem entryLengths_lifted (os : Os) (started : os.Started) (H : Type) (enc : TypeId × Value → H) :
    ReturnsInHanded {} Try.checked os 8 .any (Rows.entryLengthsSpec.pre6 enc Try.prog Try.f8 Rows.entryLengthsRow.domain false) (Rows.entryLengthsSpec.post enc Try.prog Try.f8 false true false false) := by
  refine returnsInHanded_of_change_sized (C := Try.checked) entryLengths_own started (by kernel_rfl) Try.func8
    (ChangeSpec.witness6 (enc := enc) (C := Try.checked) false ⟨#[], #[.int .u8 0, .int .u8 0, .int .u8 0, .int .u8 0, .bool false, .bool false], []⟩ 8 (by kernel_rfl) (by kernel_rfl) (by kernel_rfl) (by kernel_rfl)) ?_
  intro W base args ds gs before hval0 hW hcnd hsz _
  have hW' := hW
  obtain ⟨p, q, hA0, hV, rfl, hfz, hnd⟩ := hW
  have hA : DataW.TrodAll enc Try.prog W 0 (fun _ => true) true Try.f8.params.toList args.toList ds p := hA0
  have hval : ∀ (j : Nat) t v, Try.f8.params.toList[j]? = some t → args.toList[j]? = some v → Value.okWide Try.prog W .any base t v := fun j t v h1 h2 => hval0 j t v (by rw [← Array.getElem?_toList]; exact h1) (by rw [← Array.getElem?_toList]; exact h2)
  obtain ⟨rfl, rfl⟩ := trodVars_none hV
  have hsz' : (DataW.weightsEach Try.prog Try.f8.params.toList ds).all (· ≤ reachBytes) = true := by
    have := hsz
    rw [List.append_nil, show Rows.entryLengthsSpec.plain.varTypes Try.checked.prog = [] from rfl, List.append_nil] at this
    exact this
  simp only [List.append_nil] at hW'
  have hcall := law_calls (P := Try.prog) (id := 8) entryLengths_fits law_entryLengths hval hA hsz'
  rw [Array.toArray_toList] at hcall
  refine hcall.mono fun e W' ⟨he, hB⟩ => ?_
  subst he
  have hlt : ∀ x ∈ p, x.block < W.heap.size := fun x hx => by simpa using hW'.lt x hx
  have hback := below_trodAll entryLengths_laidOut hB _ _ _ _ entryLengths_reads hlt hA

  have hA0 := hA
  rw [Try.params8] at hA0
  obtain ⟨v0, vs0, d0, ds0, p0, q0, hv0, rfl, hp0, _, hA1⟩ := trodAll_cons hA0
  obtain ⟨v1, vs1, d1, ds1, p1, q1, hv1, rfl, hp1, _, hA2⟩ := trodAll_cons hA1
  obtain ⟨v2, vs2, d2, ds2, p2, q2, hv2, rfl, hp2, _, hA3⟩ := trodAll_cons hA2
  obtain ⟨v3, vs3, d3, ds3, p3, q3, hv3, rfl, hp3, _, hA4⟩ := trodAll_cons hA3
  obtain ⟨v4, vs4, d4, ds4, p4, q4, hv4, rfl, hp4, _, hA5⟩ := trodAll_cons hA4
  obtain ⟨v5, vs5, d5, ds5, p5, q5, hv5, rfl, hp5, _, hA6⟩ := trodAll_cons hA5
  obtain ⟨_, rfl, _⟩ := trodAll_nil hA6
  exact ⟨_, rfl, _, _, _, [], p, [], hW', trodAll_mk1 (shut_bool entryLengths_bool true), hback, rfl, hB.frame _, fun h => by cases h⟩

theorem entryLengths_holds : Rows.EntryLengthsSaid :=
  OpenClaim.holds_of_wide 8 Try.f8 rfl rfl rfl rfl rfl rfl rfl ⟨rfl, rfl, rfl, rfl, rfl⟩ rfl rfl rfl rfl rfl (by kernel_rfl) Try.func8 (by kernel_rfl)
    (of_decide_eq_true (by kernel_rfl)) (by unfold Func.isWrapper; first | (rw [if_pos (by decide +kernel)]; kernel_rfl) | (rw [if_neg (by decide +kernel)]; exact ⟨rfl, rfl⟩))
    (fun os started H enc _ => entryLengths_lifted os started H enc)

end Go.Proofs.Ytbhefgajgdcajaa

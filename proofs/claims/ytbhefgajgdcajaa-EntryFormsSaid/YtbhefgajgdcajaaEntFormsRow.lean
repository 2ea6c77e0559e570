import Derived.Test.YtbhefgajgdcajaaEntForms
import Derived.Test.YtbhefgajgdcajaaSxRow
import Derived.Test.YtbhefgajgdcajaaRows
set_option linter.unusedVariables false
set_option linter.unusedSimpArgs false
namespace Go.Proofs.Ytbhefgajgdcajaa
open Sx Go.ChangeShapes Go.WideShapes Go.ChangeAt Go.RowKit

theorem entryForms_own : ownKnob Try.prog.godebug = none := by kernel_rfl
theorem entryForms_laidOut : laidOutB Try.prog = true := by kernel_rfl
theorem entryForms_bool : Try.prog.underlying 4 = some .bool := by kernel_rfl
theorem entryForms_fits : fitsAll Try.prog [] Try.f6.params.toList = true := by kernel_rfl
theorem entryForms_reads : (Try.f6.params.toList.all fun t => Try.prog.readableRec t && decide (t < Try.prog.types.size)) = true := by kernel_rfl

set_option maxRecDepth 100000 in
theorem entryForms_lifted (os : Os) (started : os.Started) (H : Type) (enc : TypeId × Value → H) :
    ReturnsInHanded {} Try.checked os 6 .any (Rows.entryFormsSpec.pre6 enc Try.prog Try.f6 Rows.entryFormsRow.domain false) (Rows.entryFormsSpec.post enc Try.prog Try.f6 false true false false) := by
  refine returnsInHanded_of_change_sized (C := Try.checked) entryForms_own started (by kernel_rfl) Try.func6
    (ChangeSpec.witness6 (enc := enc) (C := Try.checked) false ⟨#[], #[], []⟩ 8 (by kernel_rfl) (by kernel_rfl) (by kernel_rfl) (by kernel_rfl)) ?_
  intro W base args ds gs before hval0 hW hcnd hsz _
  have hW' := hW
  obtain ⟨p, q, hA0, hV, rfl, hfz, hnd⟩ := hW
  have hA : DataW.TrodAll enc Try.prog W 0 (fun _ => true) true Try.f6.params.toList args.toList ds p := hA0
  have hval : ∀ (j : Nat) t v, Try.f6.params.toList[j]? = some t → args.toList[j]? = some v → Value.okWide Try.prog W .any base t v := fun j t v h1 h2 => hval0 j t v (by rw [← Array.getElem?_toList]; exact h1) (by rw [← Array.getElem?_toList]; exact h2)
  obtain ⟨rfl, rfl⟩ := trodVars_none hV
  have hsz' : (DataW.weightsEach Try.prog Try.f6.params.toList ds).all (· ≤ reachBytes) = true := by
    have := hsz
    rw [List.append_nil, show Rows.entryFormsSpec.plain.varTypes Try.checked.prog = [] from rfl, List.append_nil] at this
    exact this
  simp only [List.append_nil] at hW'
  have hcall := law_calls (P := Try.prog) (id := 6) entryForms_fits law_entryForms hval hA hsz'
  rw [Array.toArray_toList] at hcall
  refine hcall.mono fun e W' ⟨he, hB⟩ => ?_
  subst he
  have hlt : ∀ x ∈ p, x.block < W.heap.size := fun x hx => by simpa using hW'.lt x hx
  have hback := below_trodAll entryForms_laidOut hB _ _ _ _ entryForms_reads hlt hA

  have hA0 := hA
  rw [Try.params6] at hA0
  obtain ⟨_, rfl, _⟩ := trodAll_nil hA0
  exact ⟨_, rfl, _, _, _, [], p, [], hW', trodAll_mk1 (shut_bool entryForms_bool true), hback, rfl, hB.frame _, fun h => by cases h⟩

theorem entryForms_holds : Rows.EntryFormsSaid :=
  OpenClaim.holds_of_wide 6 Try.f6 rfl rfl rfl rfl rfl rfl rfl ⟨rfl, rfl, rfl, rfl, rfl⟩ rfl rfl rfl rfl rfl (by kernel_rfl) Try.func6 (by kernel_rfl)
    (of_decide_eq_true (by kernel_rfl)) (by unfold Func.isWrapper; first | (rw [if_pos (by decide +kernel)]; kernel_rfl) | (rw [if_neg (by decide +kernel)]; exact ⟨rfl, rfl⟩))
    (fun os started H enc _ => entryForms_lifted os started H enc)

end Go.Proofs.Ytbhefgajgdcajaa

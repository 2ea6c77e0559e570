import Derived.Test.YtbhefgajgdcajaaEntTurned
import Derived.Test.YtbhefgajgdcajaaSxRow
import Derived.Test.YtbhefgajgdcajaaRows
set_option linter.unusedVariables false
set_option linter.unusedSimpArgs false
namespace Go.Proofs.Ytbhefgajgdcajaa
open Sx Go.ChangeShapes Go.WideShapes Go.ChangeAt Go.RowKit

theorem entryTurned_own : ownKnob Try.prog.godebug = none := by kernel_rfl
theorem entryTurned_laidOut : laidOutB Try.prog = true := by kernel_rfl
theorem entryTurned_bool : Try.prog.underlying 4 = some .bool := by kernel_rfl
theorem entryTurned_fits : fitsAll Try.prog [entsh, bysh, bysh] Try.f4.params.toList = true := by kernel_rfl
theorem entryTurned_reads : (Try.f4.params.toList.all fun t => Try.prog.readableRec t && decide (t < Try.prog.types.size)) = true := by kernel_rfl

set_option maxRecDepth 100000 in
theorem entryTurned_lifted (os : Os) (started : os.Started) (H : Type) (enc : TypeId × Value → H) :
    ReturnsInHanded {} Try.checked os 4 .any (Rows.entryTurnedSpec.pre6 enc Try.prog Try.f4 Rows.entryTurnedRow.domain false) (Rows.entryTurnedSpec.post enc Try.prog Try.f4 false true false false) := by
  refine returnsInHanded_of_change_sized (C := Try.checked) entryTurned_own started (by kernel_rfl) Try.func4
    (ChangeSpec.witness6 (enc := enc) (C := Try.checked) false ⟨#[], #[.agg #[.int .i64 0, .int .i64 0, .int .i64 0, .int .i64 0, .int .i64 0, .int .i64 0, .int .i64 0, .int .i64 0, .int .i64 0, .int .i64 0, .slice none 0 0, .slice none 0 0, .slice none 0 0, .slice none 0 0, .slice none 0 0, .slice none 0 0], .slice none 0 0, .slice none 0 0], []⟩ 8 (by kernel_rfl) (by kernel_rfl) (by kernel_rfl) (by kernel_rfl)) ?_
  intro W base args ds gs before hval0 hW hcnd hsz _
  have hW' := hW
  obtain ⟨p, q, hA0, hV, rfl, hfz, hnd⟩ := hW
  have hA : DataW.TrodAll enc Try.prog W 0 (fun _ => true) true Try.f4.params.toList args.toList ds p := hA0
  have hval : ∀ (j : Nat) t v, Try.f4.params.toList[j]? = some t → args.toList[j]? = some v → Value.okWide Try.prog W .any base t v := fun j t v h1 h2 => hval0 j t v (by rw [← Array.getElem?_toList]; exact h1) (by rw [← Array.getElem?_toList]; exact h2)
  obtain ⟨rfl, rfl⟩ := trodVars_none hV
  have hsz' : (DataW.weightsEach Try.prog Try.f4.params.toList ds).all (· ≤ reachBytes) = true := by
    have := hsz
    rw [List.append_nil, show Rows.entryTurnedSpec.plain.varTypes Try.checked.prog = [] from rfl, List.append_nil] at this
    exact this
  simp only [List.append_nil] at hW'
  have hcall := law_calls (P := Try.prog) (id := 4) entryTurned_fits law_entryTurned hval hA hsz'
  rw [Array.toArray_toList] at hcall
  refine hcall.mono fun e W' ⟨he, hB⟩ => ?_
  subst he
  have hlt : ∀ x ∈ p, x.block < W.heap.size := fun x hx => by simpa using hW'.lt x hx
  have hback := below_trodAll entryTurned_laidOut hB _ _ _ _ entryTurned_reads hlt hA

  have hA0 := hA
  rw [Try.params4] at hA0
  obtain ⟨v0, vs0, d0, ds0, p0, q0, hv0, rfl, hp0, _, hA1⟩ := trodAll_cons hA0
  obtain ⟨v1, vs1, d1, ds1, p1, q1, hv1, rfl, hp1, _, hA2⟩ := trodAll_cons hA1
  obtain ⟨v2, vs2, d2, ds2, p2, q2, hv2, rfl, hp2, _, hA3⟩ := trodAll_cons hA2
  obtain ⟨_, rfl, _⟩ := trodAll_nil hA3
  exact ⟨_, rfl, _, _, _, [], p, [], hW', trodAll_mk1 (shut_bool entryTurned_bool true), hback, rfl, hB.frame _, fun h => by cases h⟩

theorem entryTurned_holds : Rows.EntryTurnedSaid :=
  OpenClaim.holds_of_wide 4 Try.f4 rfl rfl rfl rfl rfl rfl rfl ⟨rfl, rfl, rfl, rfl, rfl⟩ rfl rfl rfl rfl rfl (by kernel_rfl) Try.func4 (by kernel_rfl)
    (of_decide_eq_true (by kernel_rfl)) (by unfold Func.isWrapper; first | (rw [if_pos (by decide +kernel)]; kernel_rfl) | (rw [if_neg (by decide +kernel)]; exact ⟨rfl, rfl⟩))
    (fun os started H enc _ => entryTurned_lifted os started H enc)

end Go.Proofs.Ytbhefgajgdcajaa

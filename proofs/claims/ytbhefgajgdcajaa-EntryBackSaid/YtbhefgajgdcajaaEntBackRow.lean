import Derived.Test.YtbhefgajgdcajaaEntBack
import Derived.Test.YtbhefgajgdcajaaSxRow
import Derived.Test.YtbhefgajgdcajaaRows
set_option linter.unusedVariables false
set_option linter.unusedSimpArgs false
namespace Go.Proofs.Ytbhefgajgdcajaa
open Sx Go.ChangeShapes Go.WideShapes Go.ChangeAt Go.RowKit

theorem entryBack_own : ownKnob Try.prog.godebug = none := by kernel_rfl
theorem entryBack_laidOut : laidOutB Try.prog = true := by kernel_rfl
theorem entryBack_bool : Try.prog.underlying 4 = some .bool := by kernel_rfl
theorem entryBack_fits : fitsAll Try.prog [entsh, .int .i64, .int .u8, bysh] Try.f5.params.toList = true := by kernel_rfl
theorem entryBack_reads : (Try.f5.params.toList.all fun t => Try.prog.readableRec t && decide (t < Try.prog.types.size)) = true := by kernel_rfl

set_option maxRecDepth 100000 in
theorem entryBack_lifted (os : Os) (started : os.Started) (H : Type) (enc : TypeId × Value → H) :
    ReturnsInHanded {} Try.checked os 5 .any (Rows.entryBackSpec.pre6 enc Try.prog Try.f5 Rows.entryBackRow.domain false) (Rows.entryBackSpec.post enc Try.prog Try.f5 false true false false) := by
  refine returnsInHanded_of_change_sized (C := Try.checked) entryBack_own started (by kernel_rfl) Try.func5
    (ChangeSpec.witness6 (enc := enc) (C := Try.checked) false ⟨#[], #[.agg #[.int .i64 0, .int .i64 0, .int .i64 0, .int .i64 0, .int .i64 0, .int .i64 0, .int .i64 0, .int .i64 0, .int .i64 0, .int .i64 0, .slice none 0 0, .slice none 0 0, .slice none 0 0, .slice none 0 0, .slice none 0 0, .slice none 0 0], .int .i64 0, .int .u8 0, .slice none 0 0], []⟩ 8 (by kernel_rfl) (by kernel_rfl) (by kernel_rfl) (by kernel_rfl)) ?_
  intro W base args ds gs before hval0 hW hcnd hsz _
  have hW' := hW
  obtain ⟨p, q, hA0, hV, rfl, hfz, hnd⟩ := hW
  have hA : DataW.TrodAll enc Try.prog W 0 (fun _ => true) true Try.f5.params.toList args.toList ds p := hA0
  have hval : ∀ (j : Nat) t v, Try.f5.params.toList[j]? = some t → args.toList[j]? = some v → Value.okWide Try.prog W .any base t v := fun j t v h1 h2 => hval0 j t v (by rw [← Array.getElem?_toList]; exact h1) (by rw [← Array.getElem?_toList]; exact h2)
  obtain ⟨rfl, rfl⟩ := trodVars_none hV
  have hsz' : (DataW.weightsEach Try.prog Try.f5.params.toList ds).all (· ≤ reachBytes) = true := by
    have := hsz
    rw [List.append_nil, show Rows.entryBackSpec.plain.varTypes Try.checked.prog = [] from rfl, List.append_nil] at this
    exact this
  simp only [List.append_nil] at hW'
  have hcall := law_calls (P := Try.prog) (id := 5) entryBack_fits law_entryBack hval hA hsz'
  rw [Array.toArray_toList] at hcall
  refine hcall.mono fun e W' ⟨he, hB⟩ => ?_
  subst he
  have hlt : ∀ x ∈ p, x.block < W.heap.size := fun x hx => by simpa using hW'.lt x hx
  have hback := below_trodAll entryBack_laidOut hB _ _ _ _ entryBack_reads hlt hA

  have hA0 := hA
  rw [Try.params5] at hA0
  obtain ⟨v0, vs0, d0, ds0, p0, q0, hv0, rfl, hp0, _, hA1⟩ := trodAll_cons hA0
  obtain ⟨v1, vs1, d1, ds1, p1, q1, hv1, rfl, hp1, _, hA2⟩ := trodAll_cons hA1
  obtain ⟨v2, vs2, d2, ds2, p2, q2, hv2, rfl, hp2, _, hA3⟩ := trodAll_cons hA2
  obtain ⟨v3, vs3, d3, ds3, p3, q3, hv3, rfl, hp3, _, hA4⟩ := trodAll_cons hA3
  obtain ⟨_, rfl, _⟩ := trodAll_nil hA4
  exact ⟨_, rfl, _, _, _, [], p, [], hW', trodAll_mk1 (shut_bool entryBack_bool true), hback, rfl, hB.frame _, fun h => by cases h⟩

theorem entryBack_holds : Rows.EntryBackSaid :=
  OpenClaim.holds_of_wide 5 Try.f5 rfl rfl rfl rfl rfl rfl rfl ⟨rfl, rfl, rfl, rfl, rfl⟩ rfl rfl rfl rfl rfl (by kernel_rfl) Try.func5 (by kernel_rfl)
    (of_decide_eq_true (by kernel_rfl)) (by unfold Func.isWrapper; first | (rw [if_pos (by decide +kernel)]; kernel_rfl) | (rw [if_neg (by decide +kernel)]; exact ⟨rfl, rfl⟩))
    (fun os started H enc _ => entryBack_lifted os started H enc)

end Go.Proofs.Ytbhefgajgdcajaa

/- Any number as one from 0 to n - 1. -/
import Derived.Test.YtbhefgajgdcajaaSxShort
import Derived.Test.YtbhefgajgdcajaaEntBegun
set_option linter.unusedVariables false
set_option linter.unusedSimpArgs false
namespace Go.Proofs.Ytbhefgajgdcajaa
open Sx
attribute [local go_sem] wpC_skip wpC_reg wpC_draw wpC_seq wpC_block wpC_cond wpC_loop wpC_exit wpC_join joinK_n joinK_e joinK_r wpC_ret seqK_n seqK_e seqK_r blockK_n blockK_e blockK_r Fs_nil Fs_none Fs_some stepS_eq Fc_nil Fc_none Fc_some stepC_eq opFn ev cval lk need SV.nm enumR setS setR setRs cellsOf svOf rget spliceC rset src oint eqCells cvs fillC rows ints svDest keyOf2 ridC widens ibool icalc ibin List.replicate List.getD_cons_zero List.getD_cons_succ List.getD_nil List.set_cons_zero List.set_cons_succ List.map_cons List.map_nil List.foldl_cons List.foldl_nil List.length_cons List.length_nil List.drop_zero List.drop_succ_cons List.drop_nil List.take_succ_cons List.take_zero List.take_nil List.cons_append List.nil_append List.append_nil List.headD_cons List.flatten_cons List.flatten_nil Option.map_some Option.map_none Option.getD_none Option.getD_some true_and and_true Nat.zero_add Nat.add_zero appFn svRoom sameO beq_self_eq_true Nat.zero_mul Nat.mul_zero Nat.sub_zero Nat.zero_le Nat.le_refl and_self okB Bool.not_false Bool.true_or Bool.false_or Bool.not_true List.all_nil List.all_cons Int.toNat_zero Int.toNat_one CondC_true CondC_false beq_true beq_false opEn callEn skipEn slotsOf tmpsOf SOp.operands oo free disj List.contains_cons List.contains_nil Option.toList_some Option.toList_none Bool.and_true Bool.true_and Bool.or_false Bool.or_true Bool.and_self Bool.and_false Bool.false_and decide_true decide_false List.range'_succ List.range'_zero Int.toNat_natCast Int.natCast_nonneg Int.cast_ofNat_Int ne_eq not_false_eq_true
set_option maxRecDepth 100000
theorem Ent.Light.fine {e : Ent} (h : e.Light) : e.Fine := by
  obtain ⟨h1, h2, h3, h4, h5⟩ := h
  exact ⟨by omega, by omega, by omega, by omega, fun x hx => by have := h5 x hx; omega⟩
theorem sp_within (k : Int) (hk : -9223372036854775808 ≤ k ∧ k ≤ 9223372036854775807) (n : Nat) (hn : 1 ≤ n) (hn2 : n ≤ 1000000) : FSpec Try.prog 21 [iV k, iV n] [] (fun v ρ' => (∃ r : Nat, v = iV r ∧ r < n) ∧ ρ' = []) := by
  refine FSpec.of follow Try.func21 c21 (Nat.le_of_ble_eq_true rfl) fun hf => ?_
  have e1 : decide ((n : Int) < 1) = false := decide_eq_false (by omega)
  have hm : ∀ q : Int, 0 ≤ q → ∃ r : Nat, q.tmod n = r ∧ r < n := fun q hq => by
    have h1 : 0 ≤ q % n := Int.emod_nonneg q (by omega)
    have h2 : q % n < n := Int.emod_lt_of_pos q (by omega)
    exact ⟨(q % n).toNat, by rw [Int.tmod_eq_emod_of_nonneg hq]; omega, by omega⟩
  by_cases h0 : k < 0
  · obtain ⟨r, hr, hr2⟩ := hm (0 - (k + 1)) (by omega)
    simp only [sc21, e1, decide_eq_true h0, go_sem, reduceIte, reduceCtorEq, Nat.reduceAdd, Nat.reduceMul, Nat.reduceSub, Nat.reduceDiv, Nat.reduceMod, Nat.reduceLeDiff, Nat.reduceEqDiff, Nat.reduceBEq, Nat.reduceBNe, Int.reduceBEq, Int.reduceBNe, Int.reduceAdd, Int.reduceSub, Int.reduceMul, Int.reduceLE, Int.reduceLT, Int.reduceEq, Int.reduceNeg, Int.reduceToNat, Nat.reduceLT]
    repeat (refine And.intro (by first | omega | (unfold inI64; omega) | (simp only [u8min, u8max, u16min, u16max, u32min, u32max]; omega)) ?_)
    simp only [hr]
    refine RetC.bk [] ⟨⟨r, rfl, hr2⟩, rfl⟩
  · obtain ⟨r, hr, hr2⟩ := hm k (by omega)
    simp only [sc21, e1, decide_eq_false h0, go_sem, reduceIte, reduceCtorEq, Nat.reduceAdd, Nat.reduceMul, Nat.reduceSub, Nat.reduceDiv, Nat.reduceMod, Nat.reduceLeDiff, Nat.reduceEqDiff, Nat.reduceBEq, Nat.reduceBNe, Int.reduceBEq, Int.reduceBNe, Int.reduceAdd, Int.reduceSub, Int.reduceMul, Int.reduceLE, Int.reduceLT, Int.reduceEq, Int.reduceNeg, Int.reduceToNat, Nat.reduceLT]
    repeat (refine And.intro (by first | omega | (unfold inI64; omega) | (simp only [u8min, u8max, u16min, u16max, u32min, u32max]; omega)) ?_)
    simp only [hr]
    refine RetC.bk [] ⟨⟨r, rfl, hr2⟩, rfl⟩
end Go.Proofs.Ytbhefgajgdcajaa

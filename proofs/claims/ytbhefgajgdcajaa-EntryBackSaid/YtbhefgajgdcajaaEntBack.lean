/- What may be is put and taken, cut off or longer it is none, and what is taken is put so. -/
import Derived.Test.YtbhefgajgdcajaaSxShort
import Derived.Test.YtbhefgajgdcajaaEntArgs
set_option linter.unusedVariables false
set_option linter.unusedSimpArgs false
namespace Go.Proofs.Ytbhefgajgdcajaa
open Sx
attribute [local go_sem] wpC_skip wpC_reg wpC_draw wpC_seq wpC_block wpC_cond wpC_loop wpC_exit wpC_join joinK_n joinK_e joinK_r wpC_ret seqK_n seqK_e seqK_r blockK_n blockK_e blockK_r Fs_nil Fs_none Fs_some stepS_eq Fc_nil Fc_none Fc_some stepC_eq opFn ev cval lk need SV.nm enumR setS setR setRs cellsOf svOf rget spliceC rset src oint eqCells cvs fillC rows ints svDest keyOf2 ridC widens ibool icalc ibin List.replicate List.getD_cons_zero List.getD_cons_succ List.getD_nil List.set_cons_zero List.set_cons_succ List.map_cons List.map_nil List.foldl_cons List.foldl_nil List.length_cons List.length_nil List.drop_zero List.drop_succ_cons List.drop_nil List.take_succ_cons List.take_zero List.take_nil List.cons_append List.nil_append List.append_nil List.headD_cons List.flatten_cons List.flatten_nil Option.map_some Option.map_none Option.getD_none Option.getD_some true_and and_true Nat.zero_add Nat.add_zero appFn svRoom sameO beq_self_eq_true Nat.zero_mul Nat.mul_zero Nat.sub_zero Nat.zero_le Nat.le_refl and_self okB Bool.not_false Bool.true_or Bool.false_or Bool.not_true List.all_nil List.all_cons Int.toNat_zero Int.toNat_one CondC_true CondC_false beq_true beq_false opEn callEn skipEn slotsOf tmpsOf SOp.operands oo free disj List.contains_cons List.contains_nil Option.toList_some Option.toList_none Bool.and_true Bool.true_and Bool.or_false Bool.or_true Bool.and_self Bool.and_false Bool.false_and decide_true decide_false List.range'_succ List.range'_zero Int.toNat_natCast Int.natCast_nonneg Int.cast_ofNat_Int ne_eq not_false_eq_true
set_option maxRecDepth 100000
theorem wrE_most {e : Ent} (h : May e) : (wrE e).length ≤ 1000000 := by
  obtain ⟨n1, n2, n3, n4⟩ := len_lists h
  have h1 : e.o.length ≤ 26 := by rcases h.o with h | h <;> omega
  have h2 : e.w.length ≤ 26 := by rcases h.w with h | h <;> omega
  unfold wrE
  simp only [List.length_append, numL_len, wrI]
  omega
set_option maxHeartbeats 16000000 in
theorem sp_lawBack (e : Ent) (hB : e.Byts) (hS : e.Sized) (k : Int) (hk : -9223372036854775808 ≤ k ∧ k ≤ 9223372036854775807) (x : Int) (hx : 0 ≤ x ∧ x ≤ 255) (b : List Int) (hb : byts b) :
    FSpec Try.prog 5 [e.V, iV k, .cv (.val (.int .u8 x)), .cv (lbC b)] [] (fun v ρ' => v = bV true ∧ ρ' = []) := by
  refine FSpec.of follow Try.func5 c5 (Nat.le_of_ble_eq_true rfl) fun hf => ?_
  have hlight := sp_light e hS
  simp only [sc5, go_sem, reduceIte, reduceCtorEq, Nat.reduceAdd, Nat.reduceMul, Nat.reduceSub, Nat.reduceDiv, Nat.reduceMod, Nat.reduceLeDiff, Nat.reduceEqDiff, Nat.reduceBEq, Nat.reduceBNe, Int.reduceBEq, Int.reduceBNe, Int.reduceAdd, Int.reduceSub, Int.reduceMul, Int.reduceLE, Int.reduceLT, Int.reduceEq, Int.reduceNeg, Int.reduceToNat, Nat.reduceLT]
  refine CallC.os sp_begun [] ?_
  rintro v ρ' ⟨rfl, rfl⟩
  simp only [Ent.cells, updGiven, updNew, getR, muOf, nuOf, owned, isRo, List.range, List.range.loop, List.filter, SV.ren, CV.ren, CV.renL, SV.renL, Res.ren, List.length, List.getD_cons_zero, List.getD_cons_succ, List.idxOf?, List.findIdx?, List.findIdx?.go, slotsW, slotW, fitL, fit, disB, Nat.reduceLT, reduceIte, go_sem, reduceIte, reduceCtorEq, Nat.reduceAdd, Nat.reduceMul, Nat.reduceSub, Nat.reduceDiv, Nat.reduceMod, Nat.reduceLeDiff, Nat.reduceEqDiff, Nat.reduceBEq, Nat.reduceBNe, Int.reduceBEq, Int.reduceBNe, Int.reduceAdd, Int.reduceSub, Int.reduceMul, Int.reduceLE, Int.reduceLT, Int.reduceEq, Int.reduceNeg, Int.reduceToNat, Nat.reduceLT]
  refine CallC.os hlight [] ?_
  rintro v ρ' ⟨⟨l1, rfl, hl1⟩, rfl⟩
  cases l1
  case false =>
    simp only [updGiven, updNew, getR, muOf, nuOf, owned, isRo, List.range, List.range.loop, List.filter, SV.ren, CV.ren, CV.renL, SV.renL, Res.ren, List.length, List.getD_cons_zero, List.getD_cons_succ, List.idxOf?, List.findIdx?, List.findIdx?.go, slotsW, slotW, fitL, fit, disB, Nat.reduceLT, reduceIte, go_sem, reduceIte, reduceCtorEq, Nat.reduceAdd, Nat.reduceMul, Nat.reduceSub, Nat.reduceDiv, Nat.reduceMod, Nat.reduceLeDiff, Nat.reduceEqDiff, Nat.reduceBEq, Nat.reduceBNe, Int.reduceBEq, Int.reduceBNe, Int.reduceAdd, Int.reduceSub, Int.reduceMul, Int.reduceLE, Int.reduceLT, Int.reduceEq, Int.reduceNeg, Int.reduceToNat, Nat.reduceLT]
    refine RetC.bk [] ⟨rfl, rfl⟩
  have hL := hl1 rfl
  by_cases hb2 : (b.length : Int) > 200
  · simp only [decide_eq_true hb2, updGiven, updNew, getR, muOf, nuOf, owned, isRo, List.range, List.range.loop, List.filter, SV.ren, CV.ren, CV.renL, SV.renL, Res.ren, List.length, List.getD_cons_zero, List.getD_cons_succ, List.idxOf?, List.findIdx?, List.findIdx?.go, slotsW, slotW, fitL, fit, disB, Nat.reduceLT, reduceIte, go_sem, reduceIte, reduceCtorEq, Nat.reduceAdd, Nat.reduceMul, Nat.reduceSub, Nat.reduceDiv, Nat.reduceMod, Nat.reduceLeDiff, Nat.reduceEqDiff, Nat.reduceBEq, Nat.reduceBNe, Int.reduceBEq, Int.reduceBNe, Int.reduceAdd, Int.reduceSub, Int.reduceMul, Int.reduceLE, Int.reduceLT, Int.reduceEq, Int.reduceNeg, Int.reduceToNat, Nat.reduceLT]
    refine RetC.bk [] ⟨rfl, rfl⟩
  simp only [decide_eq_false hb2, updGiven, updNew, getR, muOf, nuOf, owned, isRo, List.range, List.range.loop, List.filter, SV.ren, CV.ren, CV.renL, SV.renL, Res.ren, List.length, List.getD_cons_zero, List.getD_cons_succ, List.idxOf?, List.findIdx?, List.findIdx?.go, slotsW, slotW, fitL, fit, disB, Nat.reduceLT, reduceIte, go_sem, reduceIte, reduceCtorEq, Nat.reduceAdd, Nat.reduceMul, Nat.reduceSub, Nat.reduceDiv, Nat.reduceMod, Nat.reduceLeDiff, Nat.reduceEqDiff, Nat.reduceBEq, Nat.reduceBNe, Int.reduceBEq, Int.reduceBNe, Int.reduceAdd, Int.reduceSub, Int.reduceMul, Int.reduceLE, Int.reduceLT, Int.reduceEq, Int.reduceNeg, Int.reduceToNat, Nat.reduceLT]
  have htb := sp_take b hb
  have hpe := sp_put e
  have hme := sp_may e
  have hpb := byts_putE hB
  have hrest : ∃ W, putE e = W ∧ byts W ∧ (¬ May e ∧ W = [] ∨ May e ∧ wrE e = W ∧ 21 ≤ W.length ∧ W.length ≤ 1000000) := by
    refine ⟨_, rfl, hpb, ?_⟩
    by_cases hm : May e
    · refine .inr ⟨hm, (putE_may hm).symm, by rw [putE_may hm]; exact wrE_len e, ?_⟩
      rw [putE_may hm]
      exact wrE_most hm
    · exact .inl ⟨hm, putE_not hm⟩
  obtain ⟨W, hW, hWb, hWc⟩ := hrest
  rw [hW] at hpe
  rcases takeE_cases b with ⟨ht, _⟩ | ⟨y, hy, rfl, ht⟩
  case' inl =>
    rw [ht] at htb
    refine CallC.os htb [] ?_
    rintro v ρ' ⟨rfl, rfl⟩
    simp only [zeroE, Ent.cells, updGiven, updNew, getR, muOf, nuOf, owned, isRo, List.range, List.range.loop, List.filter, SV.ren, CV.ren, CV.renL, SV.renL, Res.ren, List.length, List.getD_cons_zero, List.getD_cons_succ, List.idxOf?, List.findIdx?, List.findIdx?.go, slotsW, slotW, fitL, fit, disB, Nat.reduceLT, reduceIte, go_sem, reduceIte, reduceCtorEq, Nat.reduceAdd, Nat.reduceMul, Nat.reduceSub, Nat.reduceDiv, Nat.reduceMod, Nat.reduceLeDiff, Nat.reduceEqDiff, Nat.reduceBEq, Nat.reduceBNe, Int.reduceBEq, Int.reduceBNe, Int.reduceAdd, Int.reduceSub, Int.reduceMul, Int.reduceLE, Int.reduceLT, Int.reduceEq, Int.reduceNeg, Int.reduceToNat, Nat.reduceLT]
  case' inr =>
    rw [ht] at htb
    have hpy := sp_put y
    rw [putE_may hy] at hpy
    refine CallC.os htb [] ?_
    rintro v ρ' ⟨rfl, rfl⟩
    simp only [Ent.cells, updGiven, updNew, getR, muOf, nuOf, owned, isRo, List.range, List.range.loop, List.filter, SV.ren, CV.ren, CV.renL, SV.renL, Res.ren, List.length, List.getD_cons_zero, List.getD_cons_succ, List.idxOf?, List.findIdx?, List.findIdx?.go, slotsW, slotW, fitL, fit, disB, Nat.reduceLT, reduceIte, go_sem, reduceIte, reduceCtorEq, Nat.reduceAdd, Nat.reduceMul, Nat.reduceSub, Nat.reduceDiv, Nat.reduceMod, Nat.reduceLeDiff, Nat.reduceEqDiff, Nat.reduceBEq, Nat.reduceBNe, Int.reduceBEq, Int.reduceBNe, Int.reduceAdd, Int.reduceSub, Int.reduceMul, Int.reduceLE, Int.reduceLT, Int.reduceEq, Int.reduceNeg, Int.reduceToNat, Nat.reduceLT]
    refine ⟨fun j hj => ⟨_, rfl⟩, ?_⟩
    refine CallC.os hpy [] ?_
    rintro v ρ' ⟨rfl, rfl⟩
    simp only [updGiven, updNew, getR, muOf, nuOf, owned, isRo, List.range, List.range.loop, List.filter, SV.ren, CV.ren, CV.renL, SV.renL, Res.ren, List.length, List.getD_cons_zero, List.getD_cons_succ, List.idxOf?, List.findIdx?, List.findIdx?.go, slotsW, slotW, fitL, fit, disB, Nat.reduceLT, reduceIte, go_sem, reduceIte, reduceCtorEq, Nat.reduceAdd, Nat.reduceMul, Nat.reduceSub, Nat.reduceDiv, Nat.reduceMod, Nat.reduceLeDiff, Nat.reduceEqDiff, Nat.reduceBEq, Nat.reduceBNe, Int.reduceBEq, Int.reduceBNe, Int.reduceAdd, Int.reduceSub, Int.reduceMul, Int.reduceLE, Int.reduceLT, Int.reduceEq, Int.reduceNeg, Int.reduceToNat, Nat.reduceLT]
    refine ⟨fun j hj => ⟨_, rfl⟩, ?_⟩
    try simp only [bne_self_eq_false, go_sem, reduceIte, reduceCtorEq, Nat.reduceAdd, Nat.reduceMul, Nat.reduceSub, Nat.reduceDiv, Nat.reduceMod, Nat.reduceLeDiff, Nat.reduceEqDiff, Nat.reduceBEq, Nat.reduceBNe, Int.reduceBEq, Int.reduceBNe, Int.reduceAdd, Int.reduceSub, Int.reduceMul, Int.reduceLE, Int.reduceLT, Int.reduceEq, Int.reduceNeg, Int.reduceToNat, Nat.reduceLT]
  all_goals
    refine CallC.os hpe [] ?_
    rintro v ρ' ⟨rfl, rfl⟩
    simp only [updGiven, updNew, getR, muOf, nuOf, owned, isRo, List.range, List.range.loop, List.filter, SV.ren, CV.ren, CV.renL, SV.renL, Res.ren, List.length, List.getD_cons_zero, List.getD_cons_succ, List.idxOf?, List.findIdx?, List.findIdx?.go, slotsW, slotW, fitL, fit, disB, Nat.reduceLT, reduceIte, go_sem, reduceIte, reduceCtorEq, Nat.reduceAdd, Nat.reduceMul, Nat.reduceSub, Nat.reduceDiv, Nat.reduceMod, Nat.reduceLeDiff, Nat.reduceEqDiff, Nat.reduceBEq, Nat.reduceBNe, Int.reduceBEq, Int.reduceBNe, Int.reduceAdd, Int.reduceSub, Int.reduceMul, Int.reduceLE, Int.reduceLT, Int.reduceEq, Int.reduceNeg, Int.reduceToNat, Nat.reduceLT]
    refine CallC.os hme [] ?_
    rintro v ρ' ⟨⟨m1, rfl, hm1⟩, rfl⟩
    rcases hWc with ⟨hm, rfl⟩ | ⟨hm, hWe, hW1, hW2⟩
    · obtain rfl : m1 = false := by cases m1; rfl; exact absurd (hm1.1 rfl) hm
      simp only [updGiven, updNew, getR, muOf, nuOf, owned, isRo, List.range, List.range.loop, List.filter, SV.ren, CV.ren, CV.renL, SV.renL, Res.ren, List.length, List.getD_cons_zero, List.getD_cons_succ, List.idxOf?, List.findIdx?, List.findIdx?.go, slotsW, slotW, fitL, fit, disB, Nat.reduceLT, reduceIte, go_sem, reduceIte, reduceCtorEq, Nat.reduceAdd, Nat.reduceMul, Nat.reduceSub, Nat.reduceDiv, Nat.reduceMod, Nat.reduceLeDiff, Nat.reduceEqDiff, Nat.reduceBEq, Nat.reduceBNe, Int.reduceBEq, Int.reduceBNe, Int.reduceAdd, Int.reduceSub, Int.reduceMul, Int.reduceLE, Int.reduceLT, Int.reduceEq, Int.reduceNeg, Int.reduceToNat, Nat.reduceLT]
      refine RetC.bk [] ⟨rfl, rfl⟩
    obtain rfl : m1 = true := hm1.2 hm
    have h21 : decide ((W.length : Int) < 21) = false := decide_eq_false (by omega)
    have t1 := sp_take W hWb
    have q1 : takeE W = (e, 0) := by rw [← hWe]; exact takeE_put hm
    rw [q1] at t1
    simp only [h21, updGiven, updNew, getR, muOf, nuOf, owned, isRo, List.range, List.range.loop, List.filter, SV.ren, CV.ren, CV.renL, SV.renL, Res.ren, List.length, List.getD_cons_zero, List.getD_cons_succ, List.idxOf?, List.findIdx?, List.findIdx?.go, slotsW, slotW, fitL, fit, disB, Nat.reduceLT, reduceIte, go_sem, reduceIte, reduceCtorEq, Nat.reduceAdd, Nat.reduceMul, Nat.reduceSub, Nat.reduceDiv, Nat.reduceMod, Nat.reduceLeDiff, Nat.reduceEqDiff, Nat.reduceBEq, Nat.reduceBNe, Int.reduceBEq, Int.reduceBNe, Int.reduceAdd, Int.reduceSub, Int.reduceMul, Int.reduceLE, Int.reduceLT, Int.reduceEq, Int.reduceNeg, Int.reduceToNat, Nat.reduceLT]
    refine CallC.os t1 [] ?_
    rintro v ρ' ⟨rfl, rfl⟩
    simp only [Ent.cells, updGiven, updNew, getR, muOf, nuOf, owned, isRo, List.range, List.range.loop, List.filter, SV.ren, CV.ren, CV.renL, SV.renL, Res.ren, List.length, List.getD_cons_zero, List.getD_cons_succ, List.idxOf?, List.findIdx?, List.findIdx?.go, slotsW, slotW, fitL, fit, disB, Nat.reduceLT, reduceIte, go_sem, reduceIte, reduceCtorEq, Nat.reduceAdd, Nat.reduceMul, Nat.reduceSub, Nat.reduceDiv, Nat.reduceMod, Nat.reduceLeDiff, Nat.reduceEqDiff, Nat.reduceBEq, Nat.reduceBNe, Int.reduceBEq, Int.reduceBNe, Int.reduceAdd, Int.reduceSub, Int.reduceMul, Int.reduceLE, Int.reduceLT, Int.reduceEq, Int.reduceNeg, Int.reduceToNat, Nat.reduceLT]
    refine CallC.os (sp_within k hk W.length (by omega) hW2) [] ?_
    rintro v ρ' ⟨⟨r, rfl, hr⟩, rfl⟩
    have t2 := sp_take (W.take r) (byts_take hWb r)
    have q2 : takeE (W.take r) = (zeroE, 4) := takeE_form hm (t := W.drop r) (by rw [hWe, List.take_append_drop]) (fun h => by have := congrArg List.length h; rw [List.length_drop] at this; simp at this; omega)
    rw [q2, lbC_take (by omega)] at t2
    have t3 := sp_take (W ++ [x]) (byts_app hWb fun y hy => by rw [List.mem_singleton] at hy; rw [hy]; exact hx)
    have q3 : takeE (W ++ [x]) = (zeroE, 4) := by rw [← hWe]; exact takeE_more hm (by simp)
    rw [q3] at t3
    obtain ⟨X, hX, hXl⟩ : ∃ X, W ++ [x] = X ∧ X.length = W.length + 1 := ⟨_, rfl, by simp⟩
    rw [hX] at t3
    simp only [updGiven, updNew, getR, muOf, nuOf, owned, isRo, List.range, List.range.loop, List.filter, SV.ren, CV.ren, CV.renL, SV.renL, Res.ren, List.length, List.getD_cons_zero, List.getD_cons_succ, List.idxOf?, List.findIdx?, List.findIdx?.go, slotsW, slotW, fitL, fit, disB, Nat.reduceLT, reduceIte, go_sem, reduceIte, reduceCtorEq, Nat.reduceAdd, Nat.reduceMul, Nat.reduceSub, Nat.reduceDiv, Nat.reduceMod, Nat.reduceLeDiff, Nat.reduceEqDiff, Nat.reduceBEq, Nat.reduceBNe, Int.reduceBEq, Int.reduceBNe, Int.reduceAdd, Int.reduceSub, Int.reduceMul, Int.reduceLE, Int.reduceLT, Int.reduceEq, Int.reduceNeg, Int.reduceToNat, Nat.reduceLT]
    repeat (refine And.intro (by first | omega | (unfold inI64; omega) | (simp only [u8min, u8max, u16min, u16max, u32min, u32max]; omega)) ?_)
    refine CallC.of_spec t2 [] rfl ⟨rows_by fun i hi => lf_take W r i hi, trivial⟩ (by repeat' (first | exact trivial | exact rfl | exact Or.inl rfl | exact slotW_ren _ | exact cvW_ren _ | exact cvsW_ren _ | exact Nat.le_refl _ | exact slotW_frz rfl (Nat.le_refl _) | exact slotW_nil (Nat.le_of_ble_eq_true rfl) | exact cvW_frz rfl (Nat.le_refl _) | exact cvW_nil (Nat.le_of_ble_eq_true rfl) | exact Or.inl fun _ _ => rfl | exact fun _ _ => rfl | exact Nat.le_of_ble_eq_true rfl | refine ⟨Or.inl ⟨Nat.le_of_ble_eq_true rfl, ?_⟩, ?_⟩ | refine ⟨Or.inr ⟨Nat.le_of_ble_eq_true rfl, Nat.le_of_ble_eq_true rfl, Nat.le_of_ble_eq_true rfl⟩, ?_⟩ | exact Or.inr ⟨rfl, rfl, rfl, rfl, Nat.le_of_ble_eq_true rfl, Nat.le_of_ble_eq_true rfl, Nat.le_of_ble_eq_true rfl⟩ | refine ⟨?_, ?_⟩)) rfl rfl ?_
    rintro v ρ' ⟨rfl, rfl⟩
    simp only [zeroE, Ent.cells, updGiven, updNew, getR, muOf, nuOf, owned, isRo, List.range, List.range.loop, List.filter, SV.ren, CV.ren, CV.renL, SV.renL, Res.ren, List.length, List.getD_cons_zero, List.getD_cons_succ, List.idxOf?, List.findIdx?, List.findIdx?.go, slotsW, slotW, fitL, fit, disB, Nat.reduceLT, reduceIte, go_sem, reduceIte, reduceCtorEq, Nat.reduceAdd, Nat.reduceMul, Nat.reduceSub, Nat.reduceDiv, Nat.reduceMod, Nat.reduceLeDiff, Nat.reduceEqDiff, Nat.reduceBEq, Nat.reduceBNe, Int.reduceBEq, Int.reduceBNe, Int.reduceAdd, Int.reduceSub, Int.reduceMul, Int.reduceLE, Int.reduceLT, Int.reduceEq, Int.reduceNeg, Int.reduceToNat, Nat.reduceLT]
    repeat (refine And.intro (by first | omega | (unfold inI64; omega) | (simp only [u8min, u8max, u16min, u16max, u32min, u32max]; omega)) ?_)
    have hst : ∀ j, j < X.length → (if j < W.length then if j < 0 then [] else byf (lf W) j else List.take 1 (List.drop ((j - W.length) * 1) [CV.val (.int .u8 x)])) = byf (lf X) j := fun j hj => by
      rw [← hX]
      have := row_app1 W x (show j < W.length + 1 by omega)
      rw [← this]
      (repeat' split) <;> first | rfl | (exfalso; omega)
    rw [← hXl]
    refine CallC.of_fz t3 [(545, .frz 1 X.length (byf (lf X)))] [] ⟨⟨rfl, Nat.le_refl _, .inl fun j hj => rb (hst j hj)⟩, trivial⟩ rfl rfl ⟨slotW_frz rfl (Nat.le_refl _), trivial⟩ (by repeat' (first | exact trivial | exact rfl | exact Or.inl rfl | exact slotW_ren _ | exact cvW_ren _ | exact cvsW_ren _ | exact Nat.le_refl _ | exact slotW_frz rfl (Nat.le_refl _) | exact slotW_nil (Nat.le_of_ble_eq_true rfl) | exact cvW_frz rfl (Nat.le_refl _) | exact cvW_nil (Nat.le_of_ble_eq_true rfl) | exact Or.inl fun _ _ => rfl | exact fun _ _ => rfl | exact Nat.le_of_ble_eq_true rfl | refine ⟨Or.inl ⟨Nat.le_of_ble_eq_true rfl, ?_⟩, ?_⟩ | refine ⟨Or.inr ⟨Nat.le_of_ble_eq_true rfl, Nat.le_of_ble_eq_true rfl, Nat.le_of_ble_eq_true rfl⟩, ?_⟩ | exact Or.inr ⟨rfl, rfl, rfl, rfl, Nat.le_of_ble_eq_true rfl, Nat.le_of_ble_eq_true rfl, Nat.le_of_ble_eq_true rfl⟩ | refine ⟨?_, ?_⟩)) rfl rfl ?_
    rintro v ρ' ⟨rfl, rfl⟩
    simp only [zeroE, Ent.cells, updGiven, updNew, getR, muOf, nuOf, owned, isRo, List.range, List.range.loop, List.filter, SV.ren, CV.ren, CV.renL, SV.renL, Res.ren, List.length, List.getD_cons_zero, List.getD_cons_succ, List.idxOf?, List.findIdx?, List.findIdx?.go, slotsW, slotW, fitL, fit, disB, Nat.reduceLT, reduceIte, go_sem, reduceIte, reduceCtorEq, Nat.reduceAdd, Nat.reduceMul, Nat.reduceSub, Nat.reduceDiv, Nat.reduceMod, Nat.reduceLeDiff, Nat.reduceEqDiff, Nat.reduceBEq, Nat.reduceBNe, Int.reduceBEq, Int.reduceBNe, Int.reduceAdd, Int.reduceSub, Int.reduceMul, Int.reduceLE, Int.reduceLT, Int.reduceEq, Int.reduceNeg, Int.reduceToNat, Nat.reduceLT]
    refine CallC.os (sp_same e e hB hB hL.fine) [] ?_
    rintro v ρ' ⟨⟨s1, rfl, hs1⟩, rfl⟩
    obtain rfl : s1 = true := hs1.2 rfl
    simp only [updGiven, updNew, getR, muOf, nuOf, owned, isRo, List.range, List.range.loop, List.filter, SV.ren, CV.ren, CV.renL, SV.renL, Res.ren, List.length, List.getD_cons_zero, List.getD_cons_succ, List.idxOf?, List.findIdx?, List.findIdx?.go, slotsW, slotW, fitL, fit, disB, Nat.reduceLT, reduceIte, go_sem, reduceIte, reduceCtorEq, Nat.reduceAdd, Nat.reduceMul, Nat.reduceSub, Nat.reduceDiv, Nat.reduceMod, Nat.reduceLeDiff, Nat.reduceEqDiff, Nat.reduceBEq, Nat.reduceBNe, Int.reduceBEq, Int.reduceBNe, Int.reduceAdd, Int.reduceSub, Int.reduceMul, Int.reduceLE, Int.reduceLT, Int.reduceEq, Int.reduceNeg, Int.reduceToNat, Nat.reduceLT]
    refine RetC.bk [] ⟨rfl, rfl⟩

theorem law_entryBack (svs : List SV) (hs : OkAll [entsh, .int .i64, .int .u8, bysh] svs) : FSpec Try.prog 5 svs [] tru := by
  obtain ⟨a, l, rfl, h1, hs⟩ := okAll_cons hs
  obtain ⟨b, l, rfl, h2, hs⟩ := okAll_cons hs
  obtain ⟨c, l, rfl, h3, hs⟩ := okAll_cons hs
  obtain ⟨d, l, rfl, h4, hs⟩ := okAll_cons hs
  obtain rfl := okAll_nil hs
  obtain ⟨e, hB, hS, s1⟩ := ok_ent h1
  obtain ⟨k, rfl, w2⟩ := ok_int h2
  obtain ⟨x, rfl, w3⟩ := ok_int h3
  obtain ⟨t, bt, s4⟩ := ok_bys h4
  exact (sp_lawBack e hB hS k (wf_i64 w2) x (wf_u8 w3) t bt).told ⟨s1, rfl, rfl, s4, trivial⟩
end Go.Proofs.Ytbhefgajgdcajaa

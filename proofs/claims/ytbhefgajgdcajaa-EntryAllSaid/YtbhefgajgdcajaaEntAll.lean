/- Which entries may be, which bytes they have, which bytes are entries, and which are the same. -/
import Derived.Test.YtbhefgajgdcajaaSxShort
import Derived.Test.YtbhefgajgdcajaaEntArgs
import Derived.Test.YtbhefgajgdcajaaEntSE
import Derived.Test.YtbhefgajgdcajaaEntRPut
import Derived.Test.YtbhefgajgdcajaaEntRTake
import Derived.Test.YtbhefgajgdcajaaLent
set_option linter.unusedVariables false
set_option linter.unusedSimpArgs false
namespace Go.Proofs.Ytbhefgajgdcajaa
open Sx
attribute [local go_sem] wpC_skip wpC_reg wpC_draw wpC_seq wpC_block wpC_cond wpC_loop wpC_exit wpC_join joinK_n joinK_e joinK_r wpC_ret seqK_n seqK_e seqK_r blockK_n blockK_e blockK_r Fs_nil Fs_none Fs_some stepS_eq Fc_nil Fc_none Fc_some stepC_eq opFn ev cval lk need SV.nm enumR setS setR setRs cellsOf svOf rget spliceC rset src oint eqCells cvs fillC rows ints svDest keyOf2 ridC widens ibool icalc ibin List.replicate List.getD_cons_zero List.getD_cons_succ List.getD_nil List.set_cons_zero List.set_cons_succ List.map_cons List.map_nil List.foldl_cons List.foldl_nil List.length_cons List.length_nil List.drop_zero List.drop_succ_cons List.drop_nil List.take_succ_cons List.take_zero List.take_nil List.cons_append List.nil_append List.append_nil List.headD_cons List.flatten_cons List.flatten_nil Option.map_some Option.map_none Option.getD_none Option.getD_some true_and and_true Nat.zero_add Nat.add_zero appFn svRoom sameO beq_self_eq_true Nat.zero_mul Nat.mul_zero Nat.sub_zero Nat.zero_le Nat.le_refl and_self okB Bool.not_false Bool.true_or Bool.false_or Bool.not_true List.all_nil List.all_cons Int.toNat_zero Int.toNat_one CondC_true CondC_false beq_true beq_false opEn callEn skipEn slotsOf tmpsOf SOp.operands oo free disj List.contains_cons List.contains_nil Option.toList_some Option.toList_none Bool.and_true Bool.true_and Bool.or_false Bool.or_true Bool.and_self Bool.and_false Bool.false_and decide_true decide_false List.range'_succ List.range'_zero Int.toNat_natCast Int.natCast_nonneg Int.cast_ofNat_Int ne_eq not_false_eq_true updGiven updNew getR muOf nuOf owned isRo List.range.loop List.filter SV.ren CV.ren CV.renL SV.renL Res.ren List.length List.idxOf? List.findIdx? List.findIdx?.go slotsW slotW disB List.range
set_option maxRecDepth 100000
theorem byts_of_wrEA {e : Ent} (h : byts (wrE e)) : e.Byts := by
  unfold wrE at h
  have h1 := byts_r (byts_r (byts_r (byts_r (byts_r (byts_r (byts_r (byts_r (byts_r (byts_r h)))))))))
  exact ⟨byts_r (byts_l h1), byts_r (byts_l (byts_r h1))⟩
theorem may_fineA {e : Ent} (h : May e) : e.Fine := by
  have h1 := h.m.1
  have h2 := h.l.1
  have h3 := h.y.1
  have h4 := h.q.1
  exact ⟨by omega, by omega, by omega, by omega, fun x hx => by have := (h.q.2 x hx).2.2.1; omega⟩
theorem take_fineA {b : List Int} (hb : byts b) : (takeE b).1.Byts ∧ (takeE b).1.Fine := by
  rcases takeE_cases b with ⟨h, _⟩ | ⟨e, he, rfl, h⟩
  · rw [h]; exact ⟨byts_zeroE, ⟨Nat.zero_le _, Nat.zero_le _, Nat.zero_le _, Nat.zero_le _, fun x hx => by cases hx⟩⟩
  · rw [h]; exact ⟨byts_of_wrEA hb, may_fineA he⟩
set_option maxHeartbeats 40000000 in
theorem sp_lawAll (e f : Ent) (hB : e.Byts) (hS : e.Sized) (hB' : f.Byts) (hS' : f.Sized) (b : List Int) (hb : byts b) :
    FSpec Try.prog 3 [e.V, f.V, .cv (lbC b)] [] (fun v ρ' => v = bV true ∧ ρ' = []) := by
  have hlight := sp_light e hS
  have hlight' := sp_light f hS'
  have hma := sp_may e
  have hmb := sp_rmayE e
  have hpa := sp_put e
  have hpb := sp_rputE e
  have ht1 := sp_take b hb
  have ht2 := sp_rtakeE b hb
  rw [← take_eq hb] at ht2
  obtain ⟨hRB, hRF⟩ := take_fineA hb
  obtain ⟨R, hR⟩ : ∃ R, takeE b = R := ⟨_, rfl⟩
  rw [hR] at ht1 ht2 hRB hRF
  have hs := sp_sameE R.1 R.1 hRB hRB hRF
  refine FSpec.of follow Try.func3 c3 (Nat.le_of_ble_eq_true rfl) fun hff => ?_
  simp only [sc3, go_sem, reduceIte, reduceCtorEq, Nat.reduceAdd, Nat.reduceMul, Nat.reduceSub, Nat.reduceDiv, Nat.reduceMod, Nat.reduceLeDiff, Nat.reduceEqDiff, Nat.reduceBEq, Nat.reduceBNe, Int.reduceBEq, Int.reduceBNe, Int.reduceAdd, Int.reduceSub, Int.reduceMul, Int.reduceLE, Int.reduceLT, Int.reduceEq, Int.reduceNeg, Int.reduceToNat, Nat.reduceLT]
  refine CallC.os sp_begun [] ?_
  rintro v ρ' ⟨rfl, rfl⟩
  simp only [Ent.cells, go_sem, reduceIte, reduceCtorEq, Nat.reduceAdd, Nat.reduceMul, Nat.reduceSub, Nat.reduceDiv, Nat.reduceMod, Nat.reduceLeDiff, Nat.reduceEqDiff, Nat.reduceBEq, Nat.reduceBNe, Int.reduceBEq, Int.reduceBNe, Int.reduceAdd, Int.reduceSub, Int.reduceMul, Int.reduceLE, Int.reduceLT, Int.reduceEq, Int.reduceNeg, Int.reduceToNat, Nat.reduceLT]
  refine CallC.os hlight [] ?_
  rintro v ρ' ⟨⟨l1, rfl, hl1⟩, rfl⟩
  cases l1
  case false =>
    simp only [go_sem, reduceIte, reduceCtorEq, Nat.reduceAdd, Nat.reduceMul, Nat.reduceSub, Nat.reduceDiv, Nat.reduceMod, Nat.reduceLeDiff, Nat.reduceEqDiff, Nat.reduceBEq, Nat.reduceBNe, Int.reduceBEq, Int.reduceBNe, Int.reduceAdd, Int.reduceSub, Int.reduceMul, Int.reduceLE, Int.reduceLT, Int.reduceEq, Int.reduceNeg, Int.reduceToNat, Nat.reduceLT]
    refine RetC.bk [] ⟨rfl, rfl⟩
  have hL := hl1 rfl
  simp only [go_sem, reduceIte, reduceCtorEq, Nat.reduceAdd, Nat.reduceMul, Nat.reduceSub, Nat.reduceDiv, Nat.reduceMod, Nat.reduceLeDiff, Nat.reduceEqDiff, Nat.reduceBEq, Nat.reduceBNe, Int.reduceBEq, Int.reduceBNe, Int.reduceAdd, Int.reduceSub, Int.reduceMul, Int.reduceLE, Int.reduceLT, Int.reduceEq, Int.reduceNeg, Int.reduceToNat, Nat.reduceLT]
  refine CallC.os hlight' [] ?_
  rintro v ρ' ⟨⟨l2, rfl, hl2⟩, rfl⟩
  cases l2
  case false =>
    simp only [go_sem, reduceIte, reduceCtorEq, Nat.reduceAdd, Nat.reduceMul, Nat.reduceSub, Nat.reduceDiv, Nat.reduceMod, Nat.reduceLeDiff, Nat.reduceEqDiff, Nat.reduceBEq, Nat.reduceBNe, Int.reduceBEq, Int.reduceBNe, Int.reduceAdd, Int.reduceSub, Int.reduceMul, Int.reduceLE, Int.reduceLT, Int.reduceEq, Int.reduceNeg, Int.reduceToNat, Nat.reduceLT]
    refine RetC.bk [] ⟨rfl, rfl⟩
  by_cases hb2 : (b.length : Int) > 200
  · simp only [decide_eq_true hb2, go_sem, reduceIte, reduceCtorEq, Nat.reduceAdd, Nat.reduceMul, Nat.reduceSub, Nat.reduceDiv, Nat.reduceMod, Nat.reduceLeDiff, Nat.reduceEqDiff, Nat.reduceBEq, Nat.reduceBNe, Int.reduceBEq, Int.reduceBNe, Int.reduceAdd, Int.reduceSub, Int.reduceMul, Int.reduceLE, Int.reduceLT, Int.reduceEq, Int.reduceNeg, Int.reduceToNat, Nat.reduceLT]
    refine RetC.bk [] ⟨rfl, rfl⟩
  have hsa := sp_same e f hB hB' hL.fine
  have hsb := sp_sameE e f hB hB' hL.fine
  have ht1' := ht1.told (args' := [.cv (.rsl 1 b.length none (byf (lentf b.length (lf b))))]) ⟨slotW_byf (fun i hi => by simp only [lentf, hi, if_true]), trivial⟩
  simp only [decide_eq_false hb2, go_sem, reduceIte, reduceCtorEq, Nat.reduceAdd, Nat.reduceMul, Nat.reduceSub, Nat.reduceDiv, Nat.reduceMod, Nat.reduceLeDiff, Nat.reduceEqDiff, Nat.reduceBEq, Nat.reduceBNe, Int.reduceBEq, Int.reduceBNe, Int.reduceAdd, Int.reduceSub, Int.reduceMul, Int.reduceLE, Int.reduceLT, Int.reduceEq, Int.reduceNeg, Int.reduceToNat, Nat.reduceLT]
  refine CallC.os (sp_lent b.length (lf b) (by omega)) [] ?_
  rintro v ρ' ⟨rfl, rfl⟩
  simp only [go_sem, reduceIte, reduceCtorEq, Nat.reduceAdd, Nat.reduceMul, Nat.reduceSub, Nat.reduceDiv, Nat.reduceMod, Nat.reduceLeDiff, Nat.reduceEqDiff, Nat.reduceBEq, Nat.reduceBNe, Int.reduceBEq, Int.reduceBNe, Int.reduceAdd, Int.reduceSub, Int.reduceMul, Int.reduceLE, Int.reduceLT, Int.reduceEq, Int.reduceNeg, Int.reduceToNat, Nat.reduceLT]
  refine CallC.of_fz ht1' [(173, .frz 1 (b.length + 4) (byf (lentf b.length (lf b))))] [] ⟨⟨rfl, Nat.le_refl _, .inl fun j hj => rfl⟩, trivial⟩ rfl rfl ⟨slotW_frz rfl (by omega), trivial⟩ (by repeat' (first | exact trivial | exact rfl | exact Or.inl rfl | exact slotW_ren _ | exact cvW_ren _ | exact cvsW_ren _ | exact Nat.le_refl _ | exact slotW_frz rfl (Nat.le_refl _) | exact slotW_nil (Nat.le_of_ble_eq_true rfl) | exact cvW_frz rfl (Nat.le_refl _) | exact cvW_nil (Nat.le_of_ble_eq_true rfl) | exact Or.inl fun _ _ => rfl | exact fun _ _ => rfl | exact Nat.le_of_ble_eq_true rfl | refine ⟨Or.inl ⟨Nat.le_of_ble_eq_true rfl, ?_⟩, ?_⟩ | refine ⟨Or.inr ⟨Nat.le_of_ble_eq_true rfl, Nat.le_of_ble_eq_true rfl, Nat.le_of_ble_eq_true rfl⟩, ?_⟩ | exact Or.inr ⟨rfl, rfl, rfl, rfl, Nat.le_of_ble_eq_true rfl, Nat.le_of_ble_eq_true rfl, Nat.le_of_ble_eq_true rfl⟩ | refine ⟨?_, ?_⟩)) rfl rfl ?_
  rintro v ρ' ⟨rfl, rfl⟩
  simp only [Ent.cells, go_sem, reduceIte, reduceCtorEq, Nat.reduceAdd, Nat.reduceMul, Nat.reduceSub, Nat.reduceDiv, Nat.reduceMod, Nat.reduceLeDiff, Nat.reduceEqDiff, Nat.reduceBEq, Nat.reduceBNe, Int.reduceBEq, Int.reduceBNe, Int.reduceAdd, Int.reduceSub, Int.reduceMul, Int.reduceLE, Int.reduceLT, Int.reduceEq, Int.reduceNeg, Int.reduceToNat, Nat.reduceLT]
  refine CallC.os ht2 [] ?_
  rintro v ρ' ⟨rfl, rfl⟩
  simp only [Ent.cells, go_sem, reduceIte, reduceCtorEq, Nat.reduceAdd, Nat.reduceMul, Nat.reduceSub, Nat.reduceDiv, Nat.reduceMod, Nat.reduceLeDiff, Nat.reduceEqDiff, Nat.reduceBEq, Nat.reduceBNe, Int.reduceBEq, Int.reduceBNe, Int.reduceAdd, Int.reduceSub, Int.reduceMul, Int.reduceLE, Int.reduceLT, Int.reduceEq, Int.reduceNeg, Int.reduceToNat, Nat.reduceLT]
  refine CallC.os hma [] ?_
  rintro v ρ' ⟨⟨m1, rfl, hm1⟩, rfl⟩
  simp only [go_sem, reduceIte, reduceCtorEq, Nat.reduceAdd, Nat.reduceMul, Nat.reduceSub, Nat.reduceDiv, Nat.reduceMod, Nat.reduceLeDiff, Nat.reduceEqDiff, Nat.reduceBEq, Nat.reduceBNe, Int.reduceBEq, Int.reduceBNe, Int.reduceAdd, Int.reduceSub, Int.reduceMul, Int.reduceLE, Int.reduceLT, Int.reduceEq, Int.reduceNeg, Int.reduceToNat, Nat.reduceLT]
  refine CallC.os hmb [] ?_
  rintro v ρ' ⟨⟨m2, rfl, hm2⟩, rfl⟩
  obtain rfl : m1 = m2 := Bool.eq_iff_iff.2 (hm1.trans hm2.symm)
  simp only [beq_self_eq_true, go_sem, reduceIte, reduceCtorEq, Nat.reduceAdd, Nat.reduceMul, Nat.reduceSub, Nat.reduceDiv, Nat.reduceMod, Nat.reduceLeDiff, Nat.reduceEqDiff, Nat.reduceBEq, Nat.reduceBNe, Int.reduceBEq, Int.reduceBNe, Int.reduceAdd, Int.reduceSub, Int.reduceMul, Int.reduceLE, Int.reduceLT, Int.reduceEq, Int.reduceNeg, Int.reduceToNat, Nat.reduceLT]
  refine CallC.os hpa [] ?_
  rintro v ρ' ⟨rfl, rfl⟩
  simp only [go_sem, reduceIte, reduceCtorEq, Nat.reduceAdd, Nat.reduceMul, Nat.reduceSub, Nat.reduceDiv, Nat.reduceMod, Nat.reduceLeDiff, Nat.reduceEqDiff, Nat.reduceBEq, Nat.reduceBNe, Int.reduceBEq, Int.reduceBNe, Int.reduceAdd, Int.reduceSub, Int.reduceMul, Int.reduceLE, Int.reduceLT, Int.reduceEq, Int.reduceNeg, Int.reduceToNat, Nat.reduceLT]
  refine ⟨fun j hj => ⟨_, rfl⟩, ?_⟩
  refine CallC.os hpb [] ?_
  rintro v ρ' ⟨rfl, rfl⟩
  simp only [beq_self_eq_true, go_sem, reduceIte, reduceCtorEq, Nat.reduceAdd, Nat.reduceMul, Nat.reduceSub, Nat.reduceDiv, Nat.reduceMod, Nat.reduceLeDiff, Nat.reduceEqDiff, Nat.reduceBEq, Nat.reduceBNe, Int.reduceBEq, Int.reduceBNe, Int.reduceAdd, Int.reduceSub, Int.reduceMul, Int.reduceLE, Int.reduceLT, Int.reduceEq, Int.reduceNeg, Int.reduceToNat, Nat.reduceLT]
  refine ⟨fun j hj => ⟨_, rfl⟩, ?_⟩
  try simp only [beq_self_eq_true, go_sem, reduceIte, reduceCtorEq, Nat.reduceAdd, Nat.reduceMul, Nat.reduceSub, Nat.reduceDiv, Nat.reduceMod, Nat.reduceLeDiff, Nat.reduceEqDiff, Nat.reduceBEq, Nat.reduceBNe, Int.reduceBEq, Int.reduceBNe, Int.reduceAdd, Int.reduceSub, Int.reduceMul, Int.reduceLE, Int.reduceLT, Int.reduceEq, Int.reduceNeg, Int.reduceToNat, Nat.reduceLT]
  refine CallC.os hs [] ?_
  rintro v ρ' ⟨⟨s1, rfl, hs1⟩, rfl⟩
  obtain rfl : s1 = true := hs1.2 rfl
  simp only [go_sem, reduceIte, reduceCtorEq, Nat.reduceAdd, Nat.reduceMul, Nat.reduceSub, Nat.reduceDiv, Nat.reduceMod, Nat.reduceLeDiff, Nat.reduceEqDiff, Nat.reduceBEq, Nat.reduceBNe, Int.reduceBEq, Int.reduceBNe, Int.reduceAdd, Int.reduceSub, Int.reduceMul, Int.reduceLE, Int.reduceLT, Int.reduceEq, Int.reduceNeg, Int.reduceToNat, Nat.reduceLT]
  refine CallC.os hsa [] ?_
  rintro v ρ' ⟨⟨u1, rfl, hu1⟩, rfl⟩
  simp only [go_sem, reduceIte, reduceCtorEq, Nat.reduceAdd, Nat.reduceMul, Nat.reduceSub, Nat.reduceDiv, Nat.reduceMod, Nat.reduceLeDiff, Nat.reduceEqDiff, Nat.reduceBEq, Nat.reduceBNe, Int.reduceBEq, Int.reduceBNe, Int.reduceAdd, Int.reduceSub, Int.reduceMul, Int.reduceLE, Int.reduceLT, Int.reduceEq, Int.reduceNeg, Int.reduceToNat, Nat.reduceLT]
  refine CallC.os hsb [] ?_
  rintro v ρ' ⟨⟨u2, rfl, hu2⟩, rfl⟩
  obtain rfl : u1 = u2 := Bool.eq_iff_iff.2 (hu1.trans hu2.symm)
  simp only [beq_self_eq_true, go_sem, reduceIte, reduceCtorEq, Nat.reduceAdd, Nat.reduceMul, Nat.reduceSub, Nat.reduceDiv, Nat.reduceMod, Nat.reduceLeDiff, Nat.reduceEqDiff, Nat.reduceBEq, Nat.reduceBNe, Int.reduceBEq, Int.reduceBNe, Int.reduceAdd, Int.reduceSub, Int.reduceMul, Int.reduceLE, Int.reduceLT, Int.reduceEq, Int.reduceNeg, Int.reduceToNat, Nat.reduceLT]
  refine CallC.os (sp_back b.length (lentf b.length (lf b)) (lf b) (by omega) (fun j hj => rfl)) [173] ?_
  rintro v ρ' ⟨rfl, rfl⟩
  simp only [go_sem, reduceIte, reduceCtorEq, Nat.reduceAdd, Nat.reduceMul, Nat.reduceSub, Nat.reduceDiv, Nat.reduceMod, Nat.reduceLeDiff, Nat.reduceEqDiff, Nat.reduceBEq, Nat.reduceBNe, Int.reduceBEq, Int.reduceBNe, Int.reduceAdd, Int.reduceSub, Int.reduceMul, Int.reduceLE, Int.reduceLT, Int.reduceEq, Int.reduceNeg, Int.reduceToNat, Nat.reduceLT]
  refine RetC.bk [] ⟨rfl, rfl⟩
theorem law_entryAll (svs : List SV) (hs : OkAll [entsh, entsh, bysh] svs) : FSpec Try.prog 3 svs [] tru := by
  obtain ⟨a, l, rfl, h1, hs⟩ := okAll_cons hs
  obtain ⟨b, l, rfl, h2, hs⟩ := okAll_cons hs
  obtain ⟨c, l, rfl, h3, hs⟩ := okAll_cons hs
  obtain rfl := okAll_nil hs
  obtain ⟨e, hB, hS, s1⟩ := ok_ent h1
  obtain ⟨f, hB', hS', s2⟩ := ok_ent h2
  obtain ⟨k, bk, s3⟩ := ok_bys h3
  exact (sp_lawAll e f hB hS hB' hS' k bk).told ⟨s1, s2, s3, trivial⟩
end Go.Proofs.Ytbhefgajgdcajaa

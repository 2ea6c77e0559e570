/- Which bytes are entries, of entries' bytes with some turned. -/
import Derived.Test.YtbhefgajgdcajaaSxShort
import Derived.Test.YtbhefgajgdcajaaEntArgs
import Derived.Test.YtbhefgajgdcajaaEntSE
import Derived.Test.YtbhefgajgdcajaaEntRPutO
import Derived.Test.YtbhefgajgdcajaaEntRTake
set_option linter.unusedVariables false
set_option linter.unusedSimpArgs false
namespace Go.Proofs.Ytbhefgajgdcajaa
open Sx
attribute [local go_sem] wpC_skip wpC_reg wpC_draw wpC_seq wpC_block wpC_cond wpC_loop wpC_exit wpC_join joinK_n joinK_e joinK_r wpC_ret seqK_n seqK_e seqK_r blockK_n blockK_e blockK_r Fs_nil Fs_none Fs_some stepS_eq Fc_nil Fc_none Fc_some stepC_eq opFn ev cval lk need SV.nm enumR setS setR setRs cellsOf svOf rget spliceC rset src oint eqCells cvs fillC rows ints svDest keyOf2 ridC widens ibool icalc ibin List.replicate List.getD_cons_zero List.getD_cons_succ List.getD_nil List.set_cons_zero List.set_cons_succ List.map_cons List.map_nil List.foldl_cons List.foldl_nil List.length_cons List.length_nil List.drop_zero List.drop_succ_cons List.drop_nil List.take_succ_cons List.take_zero List.take_nil List.cons_append List.nil_append List.append_nil List.headD_cons List.flatten_cons List.flatten_nil Option.map_some Option.map_none Option.getD_none Option.getD_some true_and and_true Nat.zero_add Nat.add_zero appFn svRoom sameO beq_self_eq_true Nat.zero_mul Nat.mul_zero Nat.sub_zero Nat.zero_le Nat.le_refl and_self okB Bool.not_false Bool.true_or Bool.false_or Bool.not_true List.all_nil List.all_cons Int.toNat_zero Int.toNat_one CondC_true CondC_false beq_true beq_false opEn callEn skipEn slotsOf tmpsOf SOp.operands oo free disj List.contains_cons List.contains_nil Option.toList_some Option.toList_none Bool.and_true Bool.true_and Bool.or_false Bool.or_true Bool.and_self Bool.and_false Bool.false_and decide_true decide_false List.range'_succ List.range'_zero Int.toNat_natCast Int.natCast_nonneg Int.cast_ofNat_Int ne_eq not_false_eq_true updGiven updNew getR muOf nuOf owned isRo List.range.loop List.filter SV.ren CV.ren CV.renL SV.renL Res.ren List.length List.idxOf? List.findIdx? List.findIdx?.go slotsW slotW disB List.range
set_option maxRecDepth 100000
theorem byts_of_wrE {e : Ent} (h : byts (wrE e)) : e.Byts := by
  unfold wrE at h
  have h1 := byts_r (byts_r (byts_r (byts_r (byts_r (byts_r (byts_r (byts_r (byts_r (byts_r h)))))))))
  exact ⟨byts_r (byts_l h1), byts_r (byts_l (byts_r h1))⟩
theorem may_fine {e : Ent} (h : May e) : e.Fine := by
  have h1 := h.m.1
  have h2 := h.l.1
  have h3 := h.y.1
  have h4 := h.q.1
  exact ⟨by omega, by omega, by omega, by omega, fun x hx => by have := (h.q.2 x hx).2.2.1; omega⟩
theorem fine_zero : zeroE.Fine := ⟨Nat.zero_le _, Nat.zero_le _, Nat.zero_le _, Nat.zero_le _, fun x hx => by cases hx⟩
theorem take_fine {b : List Int} (hb : byts b) : (takeE b).1.Byts ∧ (takeE b).1.Fine := by
  rcases takeE_cases b with ⟨h, _⟩ | ⟨e, he, rfl, h⟩
  · rw [h]; exact ⟨byts_zeroE, fine_zero⟩
  · rw [h]; exact ⟨byts_of_wrE hb, may_fine he⟩
theorem lf_set {L : List Int} {q : Nat} (x : Int) (j : Nat) (hj : j < L.length) : lf (L.set q x) j = if j = q then x else lf L j := by
  unfold lf
  rw [List.getD_eq_getElem?_getD, List.getElem?_set]
  by_cases h : q = j
  · rw [if_pos h, if_pos h.symm, if_pos (by omega)]; rfl
  · rw [if_neg h, if_neg (fun k => h k.symm), List.getD_eq_getElem?_getD]
theorem byts_set {L : List Int} (hL : byts L) (q : Nat) {x : Int} (hx : 0 ≤ x ∧ x ≤ 255) : byts (L.set q x) := fun y hy => by
  rcases List.mem_or_eq_of_mem_set hy with h | h
  · exact hL y h
  · rw [h]; exact hx
set_option maxHeartbeats 16000000 in
theorem sp_lawTurned (e : Ent) (hB : e.Byts) (hS : e.Sized) (g h : List Int) (hg : byts g) (hh : byts h) :
    FSpec Try.prog 4 [e.V, .cv (lbC g), .cv (lbC h)] [] (fun v ρ' => v = bV true ∧ ρ' = []) := by
  have hlight := sp_light e hS
  have hmay := sp_rmayE e
  refine FSpec.of follow Try.func4 c4 (Nat.le_of_ble_eq_true rfl) fun hf => ?_
  simp only [sc4, go_sem, reduceIte, reduceCtorEq, Nat.reduceAdd, Nat.reduceMul, Nat.reduceSub, Nat.reduceDiv, Nat.reduceMod, Nat.reduceLeDiff, Nat.reduceEqDiff, Nat.reduceBEq, Nat.reduceBNe, Int.reduceBEq, Int.reduceBNe, Int.reduceAdd, Int.reduceSub, Int.reduceMul, Int.reduceLE, Int.reduceLT, Int.reduceEq, Int.reduceNeg, Int.reduceToNat, Nat.reduceLT]
  refine CallC.os sp_begun [] ?_
  rintro v ρ' ⟨rfl, rfl⟩
  simp only [Ent.cells, go_sem, reduceIte, reduceCtorEq, Nat.reduceAdd, Nat.reduceMul, Nat.reduceSub, Nat.reduceDiv, Nat.reduceMod, Nat.reduceLeDiff, Nat.reduceEqDiff, Nat.reduceBEq, Nat.reduceBNe, Int.reduceBEq, Int.reduceBNe, Int.reduceAdd, Int.reduceSub, Int.reduceMul, Int.reduceLE, Int.reduceLT, Int.reduceEq, Int.reduceNeg, Int.reduceToNat, Nat.reduceLT]
  refine CallC.os hlight [] ?_
  rintro v ρ' ⟨⟨l1, rfl, hl1⟩, rfl⟩
  cases l1
  case false =>
    simp only [go_sem, reduceIte, reduceCtorEq, Nat.reduceAdd, Nat.reduceMul, Nat.reduceSub, Nat.reduceDiv, Nat.reduceMod, Nat.reduceLeDiff, Nat.reduceEqDiff, Nat.reduceBEq, Nat.reduceBNe, Int.reduceBEq, Int.reduceBNe, Int.reduceAdd, Int.reduceSub, Int.reduceMul, Int.reduceLE, Int.reduceLT, Int.reduceEq, Int.reduceNeg, Int.reduceToNat, Nat.reduceLT]
    refine RetC.bk [] ⟨rfl, rfl⟩
  by_cases hg3 : (g.length : Int) > 3
  · simp only [decide_eq_true hg3, go_sem, reduceIte, reduceCtorEq, Nat.reduceAdd, Nat.reduceMul, Nat.reduceSub, Nat.reduceDiv, Nat.reduceMod, Nat.reduceLeDiff, Nat.reduceEqDiff, Nat.reduceBEq, Nat.reduceBNe, Int.reduceBEq, Int.reduceBNe, Int.reduceAdd, Int.reduceSub, Int.reduceMul, Int.reduceLE, Int.reduceLT, Int.reduceEq, Int.reduceNeg, Int.reduceToNat, Nat.reduceLT]
    refine RetC.bk [] ⟨rfl, rfl⟩
  by_cases hgh : (h.length : Int) < g.length
  · simp only [decide_eq_false hg3, decide_eq_true hgh, go_sem, reduceIte, reduceCtorEq, Nat.reduceAdd, Nat.reduceMul, Nat.reduceSub, Nat.reduceDiv, Nat.reduceMod, Nat.reduceLeDiff, Nat.reduceEqDiff, Nat.reduceBEq, Nat.reduceBNe, Int.reduceBEq, Int.reduceBNe, Int.reduceAdd, Int.reduceSub, Int.reduceMul, Int.reduceLE, Int.reduceLT, Int.reduceEq, Int.reduceNeg, Int.reduceToNat, Nat.reduceLT]
    refine RetC.bk [] ⟨rfl, rfl⟩
  simp only [decide_eq_false hg3, decide_eq_false hgh, go_sem, reduceIte, reduceCtorEq, Nat.reduceAdd, Nat.reduceMul, Nat.reduceSub, Nat.reduceDiv, Nat.reduceMod, Nat.reduceLeDiff, Nat.reduceEqDiff, Nat.reduceBEq, Nat.reduceBNe, Int.reduceBEq, Int.reduceBNe, Int.reduceAdd, Int.reduceSub, Int.reduceMul, Int.reduceLE, Int.reduceLT, Int.reduceEq, Int.reduceNeg, Int.reduceToNat, Nat.reduceLT]
  refine CallC.os hmay [] ?_
  rintro v ρ' ⟨⟨m1, rfl, hm1⟩, rfl⟩
  cases m1
  case false =>
    simp only [go_sem, reduceIte, reduceCtorEq, Nat.reduceAdd, Nat.reduceMul, Nat.reduceSub, Nat.reduceDiv, Nat.reduceMod, Nat.reduceLeDiff, Nat.reduceEqDiff, Nat.reduceBEq, Nat.reduceBNe, Int.reduceBEq, Int.reduceBNe, Int.reduceAdd, Int.reduceSub, Int.reduceMul, Int.reduceLE, Int.reduceLT, Int.reduceEq, Int.reduceNeg, Int.reduceToNat, Nat.reduceLT]
    refine RetC.bk [] ⟨rfl, rfl⟩
  have hm := hm1.1 rfl
  have hput := sp_rputEo e hm
  have hW := byts_wrE hB
  have hl21 := wrE_len e
  have hlm : (wrE e).length ≤ 1000000 := by
    obtain ⟨n1, n2, n3, n4⟩ := len_lists hm
    have h1 : e.o.length ≤ 26 := by rcases hm.o with h | h <;> omega
    have h2 : e.w.length ≤ 26 := by rcases hm.w with h | h <;> omega
    unfold wrE
    simp only [List.length_append, numL_len, wrI]
    omega
  obtain ⟨W, hWe⟩ : ∃ W, wrE e = W := ⟨_, rfl⟩
  rw [hWe] at hput hW hl21 hlm
  obtain ⟨n, hn⟩ : ∃ n, W.length = n := ⟨_, rfl⟩
  rw [hn] at hput hl21 hlm
  simp only [go_sem, reduceIte, reduceCtorEq, Nat.reduceAdd, Nat.reduceMul, Nat.reduceSub, Nat.reduceDiv, Nat.reduceMod, Nat.reduceLeDiff, Nat.reduceEqDiff, Nat.reduceBEq, Nat.reduceBNe, Int.reduceBEq, Int.reduceBNe, Int.reduceAdd, Int.reduceSub, Int.reduceMul, Int.reduceLE, Int.reduceLT, Int.reduceEq, Int.reduceNeg, Int.reduceToNat, Nat.reduceLT]
  refine CallC.os hput [] ?_
  rintro v ρ' ⟨rfl, rfl⟩
  simp only [go_sem, reduceIte, reduceCtorEq, Nat.reduceAdd, Nat.reduceMul, Nat.reduceSub, Nat.reduceDiv, Nat.reduceMod, Nat.reduceLeDiff, Nat.reduceEqDiff, Nat.reduceBEq, Nat.reduceBNe, Int.reduceBEq, Int.reduceBNe, Int.reduceAdd, Int.reduceSub, Int.reduceMul, Int.reduceLE, Int.reduceLT, Int.reduceEq, Int.reduceNeg, Int.reduceToNat, Nat.reduceLT]
  refine LoopC.inv follow (fun y : Nat × List Int => ⟨mkSl 75 [(1, .cv (lbC g)), (2, .cv (lbC h)), (7, .cv (.slc 0 1 0 n none)), (8, iV y.1)], [(0, .recs 1 n (byf (lf y.2)))], 1⟩)
    (fun y => y.1 ≤ g.length ∧ byts y.2 ∧ y.2.length = n) (fun y => g.length - y.1) (0, W) ⟨Nat.zero_le _, hW, hn⟩ (Weak.b [227] 0) ?_
  rintro ⟨i, F⟩ ⟨hi, hF, hFl⟩
  dsimp only at hi hF hFl
  simp only [mkSl, go_sem, reduceIte, reduceCtorEq, Nat.reduceAdd, Nat.reduceMul, Nat.reduceSub, Nat.reduceDiv, Nat.reduceMod, Nat.reduceLeDiff, Nat.reduceEqDiff, Nat.reduceBEq, Nat.reduceBNe, Int.reduceBEq, Int.reduceBNe, Int.reduceAdd, Int.reduceSub, Int.reduceMul, Int.reduceLE, Int.reduceLT, Int.reduceEq, Int.reduceNeg, Int.reduceToNat, Nat.reduceLT]
  refine CondC.of (fun hc => ?_) (fun hc => ?_)
  · simp only [decide_eq_true_eq] at hc
    have hi1 := lf_byt hg i
    have hi2 := lf_byt hh i
    obtain ⟨q, hq, hq1⟩ : ∃ q : Nat, (lf g i).tmod n = q ∧ q < n := by
      have a1 : 0 ≤ lf g i % n := Int.emod_nonneg _ (by omega)
      have a2 : lf g i % n < n := Int.emod_lt_of_pos _ (by omega)
      exact ⟨(lf g i % n).toNat, by rw [Int.tmod_eq_emod_of_nonneg hi1.1]; omega, by omega⟩
    simp only [hq, go_sem, reduceIte, reduceCtorEq, Nat.reduceAdd, Nat.reduceMul, Nat.reduceSub, Nat.reduceDiv, Nat.reduceMod, Nat.reduceLeDiff, Nat.reduceEqDiff, Nat.reduceBEq, Nat.reduceBNe, Int.reduceBEq, Int.reduceBNe, Int.reduceAdd, Int.reduceSub, Int.reduceMul, Int.reduceLE, Int.reduceLT, Int.reduceEq, Int.reduceNeg, Int.reduceToNat, Nat.reduceLT]
    repeat (refine And.intro (by first | omega | (unfold inI64; omega) | (simp only [u8min, u8max, u16min, u16max, u32min, u32max]; omega)) ?_)
    refine ⟨(i + 1, F.set q (lf h i)), ⟨by dsimp only; omega, byts_set hF q hi2, by dsimp only; rw [List.length_set]; exact hFl⟩, by dsimp only; omega, Weak.by [0] 0 ⟨rfl, rfl, rfl, by repeat' (first | exact trivial | exact rfl | exact Or.inl rfl | exact slotW_ren _ | exact cvW_ren _ | exact cvsW_ren _ | exact Nat.le_refl _ | exact slotW_frz rfl (Nat.le_refl _) | exact slotW_nil (Nat.le_of_ble_eq_true rfl) | exact cvW_frz rfl (Nat.le_refl _) | exact cvW_nil (Nat.le_of_ble_eq_true rfl) | exact Or.inl fun _ _ => rfl | exact fun _ _ => rfl | exact Nat.le_of_ble_eq_true rfl | refine ⟨Or.inl ⟨Nat.le_of_ble_eq_true rfl, ?_⟩, ?_⟩ | refine ⟨Or.inr ⟨Nat.le_of_ble_eq_true rfl, Nat.le_of_ble_eq_true rfl, Nat.le_of_ble_eq_true rfl⟩, ?_⟩ | exact Or.inr ⟨rfl, rfl, rfl, rfl, Nat.le_of_ble_eq_true rfl, Nat.le_of_ble_eq_true rfl, Nat.le_of_ble_eq_true rfl⟩ | refine ⟨?_, ?_⟩), ?_⟩⟩
    refine ⟨.inl ⟨Nat.le_of_ble_eq_true rfl, rfl, Nat.le_refl _, .inl fun j hj => rb ?_⟩, trivial⟩
    simp only [byf]
    rw [lf_set (lf h i) j (by rw [hFl]; exact hj)]
    split <;> rfl
  · have ht1 := sp_take F hF
    have ht2 := sp_rtakeE F hF
    rw [← take_eq hF] at ht2
    obtain ⟨hRB, hRF⟩ := take_fine hF
    obtain ⟨R, hR⟩ : ∃ R, takeE F = R := ⟨_, rfl⟩
    rw [hR] at ht1 ht2 hRB hRF
    have hs := sp_sameE R.1 R.1 hRB hRB hRF
    subst hFl
    simp only [go_sem, reduceIte, reduceCtorEq, Nat.reduceAdd, Nat.reduceMul, Nat.reduceSub, Nat.reduceDiv, Nat.reduceMod, Nat.reduceLeDiff, Nat.reduceEqDiff, Nat.reduceBEq, Nat.reduceBNe, Int.reduceBEq, Int.reduceBNe, Int.reduceAdd, Int.reduceSub, Int.reduceMul, Int.reduceLE, Int.reduceLT, Int.reduceEq, Int.reduceNeg, Int.reduceToNat, Nat.reduceLT]
    refine CallC.of_fz ht1 [(0, .frz 1 F.length (byf (lf F)))] [] ⟨⟨rfl, Nat.le_refl _, .inl fun j hj => rfl⟩, trivial⟩ rfl rfl ⟨slotW_frz rfl (Nat.le_refl _), trivial⟩ (by repeat' (first | exact trivial | exact rfl | exact Or.inl rfl | exact slotW_ren _ | exact cvW_ren _ | exact cvsW_ren _ | exact Nat.le_refl _ | exact slotW_frz rfl (Nat.le_refl _) | exact slotW_nil (Nat.le_of_ble_eq_true rfl) | exact cvW_frz rfl (Nat.le_refl _) | exact cvW_nil (Nat.le_of_ble_eq_true rfl) | exact Or.inl fun _ _ => rfl | exact fun _ _ => rfl | exact Nat.le_of_ble_eq_true rfl | refine ⟨Or.inl ⟨Nat.le_of_ble_eq_true rfl, ?_⟩, ?_⟩ | refine ⟨Or.inr ⟨Nat.le_of_ble_eq_true rfl, Nat.le_of_ble_eq_true rfl, Nat.le_of_ble_eq_true rfl⟩, ?_⟩ | exact Or.inr ⟨rfl, rfl, rfl, rfl, Nat.le_of_ble_eq_true rfl, Nat.le_of_ble_eq_true rfl, Nat.le_of_ble_eq_true rfl⟩ | refine ⟨?_, ?_⟩)) rfl rfl ?_
    rintro v ρ' ⟨rfl, rfl⟩
    simp only [Ent.cells, go_sem, reduceIte, reduceCtorEq, Nat.reduceAdd, Nat.reduceMul, Nat.reduceSub, Nat.reduceDiv, Nat.reduceMod, Nat.reduceLeDiff, Nat.reduceEqDiff, Nat.reduceBEq, Nat.reduceBNe, Int.reduceBEq, Int.reduceBNe, Int.reduceAdd, Int.reduceSub, Int.reduceMul, Int.reduceLE, Int.reduceLT, Int.reduceEq, Int.reduceNeg, Int.reduceToNat, Nat.reduceLT]
    refine CallC.of_fz ht2 [(0, .frz 1 F.length (byf (lf F)))] [] ⟨⟨rfl, Nat.le_refl _, .inl fun j hj => rfl⟩, trivial⟩ rfl rfl ⟨slotW_frz rfl (Nat.le_refl _), trivial⟩ (by repeat' (first | exact trivial | exact rfl | exact Or.inl rfl | exact slotW_ren _ | exact cvW_ren _ | exact cvsW_ren _ | exact Nat.le_refl _ | exact slotW_frz rfl (Nat.le_refl _) | exact slotW_nil (Nat.le_of_ble_eq_true rfl) | exact cvW_frz rfl (Nat.le_refl _) | exact cvW_nil (Nat.le_of_ble_eq_true rfl) | exact Or.inl fun _ _ => rfl | exact fun _ _ => rfl | exact Nat.le_of_ble_eq_true rfl | refine ⟨Or.inl ⟨Nat.le_of_ble_eq_true rfl, ?_⟩, ?_⟩ | refine ⟨Or.inr ⟨Nat.le_of_ble_eq_true rfl, Nat.le_of_ble_eq_true rfl, Nat.le_of_ble_eq_true rfl⟩, ?_⟩ | exact Or.inr ⟨rfl, rfl, rfl, rfl, Nat.le_of_ble_eq_true rfl, Nat.le_of_ble_eq_true rfl, Nat.le_of_ble_eq_true rfl⟩ | refine ⟨?_, ?_⟩)) rfl rfl ?_
    rintro v ρ' ⟨rfl, rfl⟩
    simp only [beq_self_eq_true, Ent.cells, go_sem, reduceIte, reduceCtorEq, Nat.reduceAdd, Nat.reduceMul, Nat.reduceSub, Nat.reduceDiv, Nat.reduceMod, Nat.reduceLeDiff, Nat.reduceEqDiff, Nat.reduceBEq, Nat.reduceBNe, Int.reduceBEq, Int.reduceBNe, Int.reduceAdd, Int.reduceSub, Int.reduceMul, Int.reduceLE, Int.reduceLT, Int.reduceEq, Int.reduceNeg, Int.reduceToNat, Nat.reduceLT]
    refine CallC.os hs [] ?_
    rintro v ρ' ⟨⟨s1, rfl, hs1⟩, rfl⟩
    obtain rfl : s1 = true := hs1.2 rfl
    simp only [go_sem, reduceIte, reduceCtorEq, Nat.reduceAdd, Nat.reduceMul, Nat.reduceSub, Nat.reduceDiv, Nat.reduceMod, Nat.reduceLeDiff, Nat.reduceEqDiff, Nat.reduceBEq, Nat.reduceBNe, Int.reduceBEq, Int.reduceBNe, Int.reduceAdd, Int.reduceSub, Int.reduceMul, Int.reduceLE, Int.reduceLT, Int.reduceEq, Int.reduceNeg, Int.reduceToNat, Nat.reduceLT]
    refine RetC.bk [] ⟨rfl, rfl⟩
theorem law_entryTurned (svs : List SV) (hs : OkAll [entsh, bysh, bysh] svs) : FSpec Try.prog 4 svs [] tru := by
  obtain ⟨a, l, rfl, h1, hs⟩ := okAll_cons hs
  obtain ⟨b, l, rfl, h2, hs⟩ := okAll_cons hs
  obtain ⟨c, l, rfl, h3, hs⟩ := okAll_cons hs
  obtain rfl := okAll_nil hs
  obtain ⟨e, hB, hS, s1⟩ := ok_ent h1
  obtain ⟨g, bg, s2⟩ := ok_bys h2
  obtain ⟨k, bk, s3⟩ := ok_bys h3
  exact (sp_lawTurned e hB hS g k bg bk).told ⟨s1, s2, s3, trivial⟩
end Go.Proofs.Ytbhefgajgdcajaa

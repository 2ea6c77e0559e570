/- An entry's bytes, to be written on: the document's. -/
import Derived.Test.YtbhefgajgdcajaaSxShort
import Derived.Test.YtbhefgajgdcajaaEntRWr
set_option linter.unusedVariables false
set_option linter.unusedSimpArgs false
namespace Go.Proofs.Ytbhefgajgdcajaa
open Sx
attribute [local go_sem] wpC_skip wpC_reg wpC_draw wpC_seq wpC_block wpC_cond wpC_loop wpC_exit wpC_join joinK_n joinK_e joinK_r wpC_ret seqK_n seqK_e seqK_r blockK_n blockK_e blockK_r Fs_nil Fs_none Fs_some stepS_eq Fc_nil Fc_none Fc_some stepC_eq opFn ev cval lk need SV.nm enumR setS setR setRs cellsOf svOf rget spliceC rset src oint eqCells cvs fillC rows ints svDest keyOf2 ridC widens ibool icalc ibin List.replicate List.getD_cons_zero List.getD_cons_succ List.getD_nil List.set_cons_zero List.set_cons_succ List.map_cons List.map_nil List.foldl_cons List.foldl_nil List.length_cons List.length_nil List.drop_zero List.drop_succ_cons List.drop_nil List.take_succ_cons List.take_zero List.take_nil List.cons_append List.nil_append List.append_nil List.headD_cons List.flatten_cons List.flatten_nil Option.map_some Option.map_none Option.getD_none Option.getD_some true_and and_true Nat.zero_add Nat.add_zero appFn svRoom sameO beq_self_eq_true Nat.zero_mul Nat.mul_zero Nat.sub_zero Nat.zero_le Nat.le_refl and_self okB Bool.not_false Bool.true_or Bool.false_or Bool.not_true List.all_nil List.all_cons Int.toNat_zero Int.toNat_one CondC_true CondC_false beq_true beq_false opEn callEn skipEn slotsOf tmpsOf SOp.operands oo free disj List.contains_cons List.contains_nil Option.toList_some Option.toList_none Bool.and_true Bool.true_and Bool.or_false Bool.or_true Bool.and_self Bool.and_false Bool.false_and decide_true decide_false List.range'_succ List.range'_zero Int.toNat_natCast Int.natCast_nonneg Int.cast_ofNat_Int ne_eq not_false_eq_true updGiven updNew getR muOf nuOf owned isRo List.range.loop List.filter SV.ren CV.ren CV.renL SV.renL Res.ren List.length List.idxOf? List.findIdx? List.findIdx?.go slotsW slotW disB List.range
set_option maxRecDepth 100000
set_option maxHeartbeats 40000000 in
theorem sp_rputEo (e : Ent) (hm : May e) : FSpec Try.prog 17 [e.V] [] (fun v ρ' => v = .cv (.slc 0 1 0 (wrE e).length none) ∧ ρ' = [.recs 1 (wrE e).length (byf (lf (wrE e)))]) := by
  have hm1 := hm.m.1
  have hl1 := hm.l.1
  have hy1 := hm.y.1
  have hq1 := hm.q.1
  obtain ⟨n1, n2, n3, n4⟩ := len_lists hm
  have ho1 : e.o.length ≤ 26 := by rcases hm.o with h | h <;> omega
  have hw1 : e.w.length ≤ 26 := by rcases hm.w with h | h <;> omega
  have s0 := sp_rmayE e
  have he : wrE e = numL 1 e.k ++ numL 1 e.t ++ numL 2 e.u ++ numL 1 e.h ++ numL 3 e.p ++ numL 3 e.n ++ (numL 1 e.a ++ numL 1 e.b) ++ (numL 1 e.c ++ numL 1 e.d) ++ wrI e.o ++ wrI e.w ++ wrS wrM e.m ++ numL 1 (e.l.length : Int) ++ e.l.flatMap wrL ++ numL 1 (e.y.length : Int) ++ e.y.flatMap wrD ++ numL 1 (e.q.length : Int) ++ e.q.flatMap wrO := by unfold wrE; simp only [wrS, List.append_assoc]
  rw [he]
  clear he
  have s1 := sp_rwNum0 e.k (fit_big (by omega) hm.k').1 (fit_big (by omega) hm.k').2 1 (by omega)
  obtain ⟨M1, hM1, l1⟩ : ∃ M, numL 1 e.k = M ∧ M.length ≤ 6 := ⟨_, rfl, by rw [numL_len]; omega⟩
  rw [hM1] at s1 ⊢
  have s2 := sp_rwN (by omega) hm.t M1 (by omega)
  obtain ⟨M2, hM2, l2⟩ : ∃ M, M1 ++ numL 1 e.t = M ∧ M.length ≤ 12 := ⟨_, rfl, by simp only [List.length_append, numL_len, wrI]; omega⟩
  rw [hM2] at s2 ⊢
  have s3 := sp_rwN (by omega) hm.u M2 (by omega)
  obtain ⟨M3, hM3, l3⟩ : ∃ M, M2 ++ numL 2 e.u = M ∧ M.length ≤ 18 := ⟨_, rfl, by simp only [List.length_append, numL_len, wrI]; omega⟩
  rw [hM3] at s3 ⊢
  have s4 := sp_rwN (by omega) hm.h M3 (by omega)
  obtain ⟨M4, hM4, l4⟩ : ∃ M, M3 ++ numL 1 e.h = M ∧ M.length ≤ 24 := ⟨_, rfl, by simp only [List.length_append, numL_len, wrI]; omega⟩
  rw [hM4] at s4 ⊢
  have s5 := sp_rwN (by omega) hm.p M4 (by omega)
  obtain ⟨M5, hM5, l5⟩ : ∃ M, M4 ++ numL 3 e.p = M ∧ M.length ≤ 30 := ⟨_, rfl, by simp only [List.length_append, numL_len, wrI]; omega⟩
  rw [hM5] at s5 ⊢
  have s6 := sp_rwN (by omega) hm.n M5 (by omega)
  obtain ⟨M6, hM6, l6⟩ : ∃ M, M5 ++ numL 3 e.n = M ∧ M.length ≤ 36 := ⟨_, rfl, by simp only [List.length_append, numL_len, wrI]; omega⟩
  rw [hM6] at s6 ⊢
  have s7 := sp_rwRid hm.a hm.b M6 (by omega)
  obtain ⟨M7, hM7, l7⟩ : ∃ M, M6 ++ (numL 1 e.a ++ numL 1 e.b) = M ∧ M.length ≤ 42 := ⟨_, rfl, by simp only [List.length_append, numL_len, wrI]; omega⟩
  rw [hM7] at s7 ⊢
  have s8 := sp_rwRid hm.c hm.d M7 (by omega)
  obtain ⟨M8, hM8, l8⟩ : ∃ M, M7 ++ (numL 1 e.c ++ numL 1 e.d) = M ∧ M.length ≤ 48 := ⟨_, rfl, by simp only [List.length_append, numL_len, wrI]; omega⟩
  rw [hM8] at s8 ⊢
  have s9 := sp_rwCell e.o hm.o M8 (by omega)
  obtain ⟨M9, hM9, l9⟩ : ∃ M, M8 ++ wrI e.o = M ∧ M.length ≤ 75 := ⟨_, rfl, by simp only [List.length_append, numL_len, wrI]; omega⟩
  rw [hM9] at s9 ⊢
  have s10 := sp_rwCell e.w hm.w M9 (by omega)
  obtain ⟨M10, hM10, l10⟩ : ∃ M, M9 ++ wrI e.w = M ∧ M.length ≤ 102 := ⟨_, rfl, by simp only [List.length_append, numL_len, wrI]; omega⟩
  rw [hM10] at s10 ⊢
  have s11 := sp_rwMoves e.m hm.m M10 (by omega)
  obtain ⟨M11, hM11, l11⟩ : ∃ M, M10 ++ wrS wrM e.m = M ∧ M.length ≤ 263 := ⟨_, rfl, by rw [List.length_append]; omega⟩
  rw [hM11] at s11 ⊢
  have s12 := sp_rwN (by omega) (fit_len hl1) M11 (by omega)
  obtain ⟨M12, hM12, l12⟩ : ∃ M, M11 ++ numL 1 (e.l.length : Int) = M ∧ M.length ≤ 269 := ⟨_, rfl, by simp only [List.length_append, numL_len, wrI]; omega⟩
  rw [hM12] at s12 ⊢
  refine FSpec.of follow Try.func17 c17 (Nat.le_of_ble_eq_true rfl) fun hf => ?_
  simp only [sc17, Ent.cells, go_sem, reduceIte, reduceCtorEq, Nat.reduceAdd, Nat.reduceMul, Nat.reduceSub, Nat.reduceDiv, Nat.reduceMod, Nat.reduceLeDiff, Nat.reduceEqDiff, Nat.reduceBEq, Nat.reduceBNe, Int.reduceBEq, Int.reduceBNe, Int.reduceAdd, Int.reduceSub, Int.reduceMul, Int.reduceLE, Int.reduceLT, Int.reduceEq, Int.reduceNeg, Int.reduceToNat, Nat.reduceLT]
  refine CallC.os s0 [] ?_
  rintro v ρ' ⟨⟨b, rfl, hb⟩, rfl⟩
  obtain rfl : b = true := hb.2 hm
  simp only [go_sem, reduceIte, reduceCtorEq, Nat.reduceAdd, Nat.reduceMul, Nat.reduceSub, Nat.reduceDiv, Nat.reduceMod, Nat.reduceLeDiff, Nat.reduceEqDiff, Nat.reduceBEq, Nat.reduceBNe, Int.reduceBEq, Int.reduceBNe, Int.reduceAdd, Int.reduceSub, Int.reduceMul, Int.reduceLE, Int.reduceLT, Int.reduceEq, Int.reduceNeg, Int.reduceToNat, Nat.reduceLT]
  refine CallC.os s1 [46] ?_
  rintro v ρ' ⟨rfl, rfl⟩
  simp only [go_sem, reduceIte, reduceCtorEq, Nat.reduceAdd, Nat.reduceMul, Nat.reduceSub, Nat.reduceDiv, Nat.reduceMod, Nat.reduceLeDiff, Nat.reduceEqDiff, Nat.reduceBEq, Nat.reduceBNe, Int.reduceBEq, Int.reduceBNe, Int.reduceAdd, Int.reduceSub, Int.reduceMul, Int.reduceLE, Int.reduceLT, Int.reduceEq, Int.reduceNeg, Int.reduceToNat, Nat.reduceLT]
  refine CallC.os s2 [46, 100] ?_
  rintro v ρ' ⟨rfl, rfl⟩
  simp only [go_sem, reduceIte, reduceCtorEq, Nat.reduceAdd, Nat.reduceMul, Nat.reduceSub, Nat.reduceDiv, Nat.reduceMod, Nat.reduceLeDiff, Nat.reduceEqDiff, Nat.reduceBEq, Nat.reduceBNe, Int.reduceBEq, Int.reduceBNe, Int.reduceAdd, Int.reduceSub, Int.reduceMul, Int.reduceLE, Int.reduceLT, Int.reduceEq, Int.reduceNeg, Int.reduceToNat, Nat.reduceLT]
  refine CallC.os s3 [46, 136] ?_
  rintro v ρ' ⟨rfl, rfl⟩
  simp only [go_sem, reduceIte, reduceCtorEq, Nat.reduceAdd, Nat.reduceMul, Nat.reduceSub, Nat.reduceDiv, Nat.reduceMod, Nat.reduceLeDiff, Nat.reduceEqDiff, Nat.reduceBEq, Nat.reduceBNe, Int.reduceBEq, Int.reduceBNe, Int.reduceAdd, Int.reduceSub, Int.reduceMul, Int.reduceLE, Int.reduceLT, Int.reduceEq, Int.reduceNeg, Int.reduceToNat, Nat.reduceLT]
  refine CallC.os s4 [46, 172] ?_
  rintro v ρ' ⟨rfl, rfl⟩
  simp only [go_sem, reduceIte, reduceCtorEq, Nat.reduceAdd, Nat.reduceMul, Nat.reduceSub, Nat.reduceDiv, Nat.reduceMod, Nat.reduceLeDiff, Nat.reduceEqDiff, Nat.reduceBEq, Nat.reduceBNe, Int.reduceBEq, Int.reduceBNe, Int.reduceAdd, Int.reduceSub, Int.reduceMul, Int.reduceLE, Int.reduceLT, Int.reduceEq, Int.reduceNeg, Int.reduceToNat, Nat.reduceLT]
  refine CallC.os s5 [46, 208] ?_
  rintro v ρ' ⟨rfl, rfl⟩
  simp only [go_sem, reduceIte, reduceCtorEq, Nat.reduceAdd, Nat.reduceMul, Nat.reduceSub, Nat.reduceDiv, Nat.reduceMod, Nat.reduceLeDiff, Nat.reduceEqDiff, Nat.reduceBEq, Nat.reduceBNe, Int.reduceBEq, Int.reduceBNe, Int.reduceAdd, Int.reduceSub, Int.reduceMul, Int.reduceLE, Int.reduceLT, Int.reduceEq, Int.reduceNeg, Int.reduceToNat, Nat.reduceLT]
  refine CallC.os s6 [46, 244] ?_
  rintro v ρ' ⟨rfl, rfl⟩
  simp only [go_sem, reduceIte, reduceCtorEq, Nat.reduceAdd, Nat.reduceMul, Nat.reduceSub, Nat.reduceDiv, Nat.reduceMod, Nat.reduceLeDiff, Nat.reduceEqDiff, Nat.reduceBEq, Nat.reduceBNe, Int.reduceBEq, Int.reduceBNe, Int.reduceAdd, Int.reduceSub, Int.reduceMul, Int.reduceLE, Int.reduceLT, Int.reduceEq, Int.reduceNeg, Int.reduceToNat, Nat.reduceLT]
  refine CallC.os s7 [46, 280] ?_
  rintro v ρ' ⟨rfl, rfl⟩
  simp only [go_sem, reduceIte, reduceCtorEq, Nat.reduceAdd, Nat.reduceMul, Nat.reduceSub, Nat.reduceDiv, Nat.reduceMod, Nat.reduceLeDiff, Nat.reduceEqDiff, Nat.reduceBEq, Nat.reduceBNe, Int.reduceBEq, Int.reduceBNe, Int.reduceAdd, Int.reduceSub, Int.reduceMul, Int.reduceLE, Int.reduceLT, Int.reduceEq, Int.reduceNeg, Int.reduceToNat, Nat.reduceLT]
  refine CallC.os s8 [46, 316] ?_
  rintro v ρ' ⟨rfl, rfl⟩
  simp only [go_sem, reduceIte, reduceCtorEq, Nat.reduceAdd, Nat.reduceMul, Nat.reduceSub, Nat.reduceDiv, Nat.reduceMod, Nat.reduceLeDiff, Nat.reduceEqDiff, Nat.reduceBEq, Nat.reduceBNe, Int.reduceBEq, Int.reduceBNe, Int.reduceAdd, Int.reduceSub, Int.reduceMul, Int.reduceLE, Int.reduceLT, Int.reduceEq, Int.reduceNeg, Int.reduceToNat, Nat.reduceLT]
  refine CallC.os s9 [46, 352] ?_
  rintro v ρ' ⟨rfl, rfl⟩
  simp only [go_sem, reduceIte, reduceCtorEq, Nat.reduceAdd, Nat.reduceMul, Nat.reduceSub, Nat.reduceDiv, Nat.reduceMod, Nat.reduceLeDiff, Nat.reduceEqDiff, Nat.reduceBEq, Nat.reduceBNe, Int.reduceBEq, Int.reduceBNe, Int.reduceAdd, Int.reduceSub, Int.reduceMul, Int.reduceLE, Int.reduceLT, Int.reduceEq, Int.reduceNeg, Int.reduceToNat, Nat.reduceLT]
  refine CallC.os s10 [46, 388] ?_
  rintro v ρ' ⟨rfl, rfl⟩
  simp only [go_sem, reduceIte, reduceCtorEq, Nat.reduceAdd, Nat.reduceMul, Nat.reduceSub, Nat.reduceDiv, Nat.reduceMod, Nat.reduceLeDiff, Nat.reduceEqDiff, Nat.reduceBEq, Nat.reduceBNe, Int.reduceBEq, Int.reduceBNe, Int.reduceAdd, Int.reduceSub, Int.reduceMul, Int.reduceLE, Int.reduceLT, Int.reduceEq, Int.reduceNeg, Int.reduceToNat, Nat.reduceLT]
  refine CallC.os s11 [46, 424] ?_
  rintro v ρ' ⟨rfl, rfl⟩
  simp only [go_sem, reduceIte, reduceCtorEq, Nat.reduceAdd, Nat.reduceMul, Nat.reduceSub, Nat.reduceDiv, Nat.reduceMod, Nat.reduceLeDiff, Nat.reduceEqDiff, Nat.reduceBEq, Nat.reduceBNe, Int.reduceBEq, Int.reduceBNe, Int.reduceAdd, Int.reduceSub, Int.reduceMul, Int.reduceLE, Int.reduceLT, Int.reduceEq, Int.reduceNeg, Int.reduceToNat, Nat.reduceLT]
  refine CallC.os s12 [46, 460] ?_
  rintro v ρ' ⟨rfl, rfl⟩
  simp only [go_sem, reduceIte, reduceCtorEq, Nat.reduceAdd, Nat.reduceMul, Nat.reduceSub, Nat.reduceDiv, Nat.reduceMod, Nat.reduceLeDiff, Nat.reduceEqDiff, Nat.reduceBEq, Nat.reduceBNe, Int.reduceBEq, Int.reduceBNe, Int.reduceAdd, Int.reduceSub, Int.reduceMul, Int.reduceLE, Int.reduceLT, Int.reduceEq, Int.reduceNeg, Int.reduceToNat, Nat.reduceLT]
  refine LoopC.inv follow (fun y : Nat × List Int => ⟨mkSl 170 [(1, .cv (.ptr 0 0 0 0)), (3, .cv (.ptr 1 0 0 0)), (4, iV y.1)], [(0, .cells e.cells), (1, .cells [.slc 2 1 0 y.2.length none]), (2, .recs 1 y.2.length (byf (lf y.2)))], 3⟩)
    (fun y => y.1 ≤ e.l.length ∧ y.2 = M12 ++ (e.l.take y.1).flatMap wrL) (fun y => e.l.length - y.1) (0, M12) ⟨Nat.zero_le _, (List.append_nil M12).symm⟩ (Weak.b [0, 46, 505] 0) ?_
  rintro ⟨i, K⟩ ⟨hi, hK⟩
  dsimp only at hi hK
  simp only [mkSl, Ent.cells, go_sem, reduceIte, reduceCtorEq, Nat.reduceAdd, Nat.reduceMul, Nat.reduceSub, Nat.reduceDiv, Nat.reduceMod, Nat.reduceLeDiff, Nat.reduceEqDiff, Nat.reduceBEq, Nat.reduceBNe, Int.reduceBEq, Int.reduceBNe, Int.reduceAdd, Int.reduceSub, Int.reduceMul, Int.reduceLE, Int.reduceLT, Int.reduceEq, Int.reduceNeg, Int.reduceToNat, Nat.reduceLT]
  refine CondC.of (fun hc => ?_) (fun hc => ?_)
  · simp only [decide_eq_true_eq] at hc
    have hc' : i < e.l.length := by omega
    have hx := hm.l.2 _ (getD_mem hc' (0, 0, 0, false))
    have hKl : K.length ≤ 269 + 40 * 8 := by
      have h1 := flat_le wrL 8 (e.l.take i) fun x hx => by unfold wrL; simp only [List.length_append, numL_len]; omega
      have h2 : (e.l.take i).length * 8 ≤ 40 * 8 := Nat.mul_le_mul_right _ (by rw [List.length_take]; omega)
      rw [hK, List.length_append]; omega
    have t1 := sp_rwN (by omega) hx.1 K (by omega)
    obtain ⟨K1, hK1, hl1⟩ : ∃ M, K ++ numL 1 (e.l.getD i (0, 0, 0, false)).1 = M ∧ M.length ≤ 269 + 40 * 8 + 4 := ⟨_, rfl, by simp only [List.length_append, numL_len]; omega⟩
    rw [hK1] at t1
    have t2 := sp_rwN (by omega) hx.2.1 K1 (by omega)
    obtain ⟨K2, hK2, hl2⟩ : ∃ M, K1 ++ numL 3 (e.l.getD i (0, 0, 0, false)).2.1 = M ∧ M.length ≤ 269 + 40 * 8 + 8 := ⟨_, rfl, by simp only [List.length_append, numL_len]; omega⟩
    rw [hK2] at t2
    have t3 := sp_rwN (by omega) hx.2.2 K2 (by omega)
    obtain ⟨K3, hK3, hl3⟩ : ∃ M, K2 ++ numL 3 (e.l.getD i (0, 0, 0, false)).2.2.1 = M ∧ M.length ≤ 269 + 40 * 8 + 12 := ⟨_, rfl, by simp only [List.length_append, numL_len]; omega⟩
    rw [hK3] at t3
    have t4 := sp_rwN (by omega) (fit_bool (e.l.getD i (0, 0, 0, false)).2.2.2) K3 (by omega)
    obtain ⟨K4, hK4⟩ : ∃ M, K3 ++ numL 1 (boolI (e.l.getD i (0, 0, 0, false)).2.2.2) = M := ⟨_, rfl⟩
    rw [hK4] at t4
    have he2 : K4 = M12 ++ (e.l.take (i + 1)).flatMap wrL := by
      rw [← hK4, ← hK3, ← hK2, ← hK1, hK, flat_step wrL (0, 0, 0, false) e.l i hc']
      unfold wrL
      simp only [List.append_assoc]
    simp only [go_sem, reduceIte, reduceCtorEq, Nat.reduceAdd, Nat.reduceMul, Nat.reduceSub, Nat.reduceDiv, Nat.reduceMod, Nat.reduceLeDiff, Nat.reduceEqDiff, Nat.reduceBEq, Nat.reduceBNe, Int.reduceBEq, Int.reduceBNe, Int.reduceAdd, Int.reduceSub, Int.reduceMul, Int.reduceLE, Int.reduceLT, Int.reduceEq, Int.reduceNeg, Int.reduceToNat, Nat.reduceLT]
    repeat (refine And.intro (by first | omega | (unfold inI64; omega) | (simp only [u8min, u8max, u16min, u16max, u32min, u32max]; omega)) ?_)
    refine CallC.os t1 [1, 2] ?_
    rintro v ρ' ⟨rfl, rfl⟩
    simp only [go_sem, reduceIte, reduceCtorEq, Nat.reduceAdd, Nat.reduceMul, Nat.reduceSub, Nat.reduceDiv, Nat.reduceMod, Nat.reduceLeDiff, Nat.reduceEqDiff, Nat.reduceBEq, Nat.reduceBNe, Int.reduceBEq, Int.reduceBNe, Int.reduceAdd, Int.reduceSub, Int.reduceMul, Int.reduceLE, Int.reduceLT, Int.reduceEq, Int.reduceNeg, Int.reduceToNat, Nat.reduceLT]
    repeat (refine And.intro (by first | omega | (unfold inI64; omega) | (simp only [u8min, u8max, u16min, u16max, u32min, u32max]; omega)) ?_)
    refine CallC.os t2 [1, 112] ?_
    rintro v ρ' ⟨rfl, rfl⟩
    simp only [go_sem, reduceIte, reduceCtorEq, Nat.reduceAdd, Nat.reduceMul, Nat.reduceSub, Nat.reduceDiv, Nat.reduceMod, Nat.reduceLeDiff, Nat.reduceEqDiff, Nat.reduceBEq, Nat.reduceBNe, Int.reduceBEq, Int.reduceBNe, Int.reduceAdd, Int.reduceSub, Int.reduceMul, Int.reduceLE, Int.reduceLT, Int.reduceEq, Int.reduceNeg, Int.reduceToNat, Nat.reduceLT]
    repeat (refine And.intro (by first | omega | (unfold inI64; omega) | (simp only [u8min, u8max, u16min, u16max, u32min, u32max]; omega)) ?_)
    refine CallC.os t3 [1, 184] ?_
    rintro v ρ' ⟨rfl, rfl⟩
    simp only [go_sem, reduceIte, reduceCtorEq, Nat.reduceAdd, Nat.reduceMul, Nat.reduceSub, Nat.reduceDiv, Nat.reduceMod, Nat.reduceLeDiff, Nat.reduceEqDiff, Nat.reduceBEq, Nat.reduceBNe, Int.reduceBEq, Int.reduceBNe, Int.reduceAdd, Int.reduceSub, Int.reduceMul, Int.reduceLE, Int.reduceLT, Int.reduceEq, Int.reduceNeg, Int.reduceToNat, Nat.reduceLT]
    repeat (refine And.intro (by first | omega | (unfold inI64; omega) | (simp only [u8min, u8max, u16min, u16max, u32min, u32max]; omega)) ?_)
    cases hbb : (e.l.getD i (0, 0, 0, false)).2.2.2
    all_goals
      rw [hbb] at t4
      simp only [boolI, if_true, if_false, Bool.false_eq_true] at t4
      simp only [hbb, go_sem, reduceIte, reduceCtorEq, Nat.reduceAdd, Nat.reduceMul, Nat.reduceSub, Nat.reduceDiv, Nat.reduceMod, Nat.reduceLeDiff, Nat.reduceEqDiff, Nat.reduceBEq, Nat.reduceBNe, Int.reduceBEq, Int.reduceBNe, Int.reduceAdd, Int.reduceSub, Int.reduceMul, Int.reduceLE, Int.reduceLT, Int.reduceEq, Int.reduceNeg, Int.reduceToNat, Nat.reduceLT]
      refine CallC.os t4 [1, 256] ?_
      rintro v ρ' ⟨rfl, rfl⟩
      simp only [go_sem, reduceIte, reduceCtorEq, Nat.reduceAdd, Nat.reduceMul, Nat.reduceSub, Nat.reduceDiv, Nat.reduceMod, Nat.reduceLeDiff, Nat.reduceEqDiff, Nat.reduceBEq, Nat.reduceBNe, Int.reduceBEq, Int.reduceBNe, Int.reduceAdd, Int.reduceSub, Int.reduceMul, Int.reduceLE, Int.reduceLT, Int.reduceEq, Int.reduceNeg, Int.reduceToNat, Nat.reduceLT]
      repeat (refine And.intro (by first | omega | (unfold inI64; omega) | (simp only [u8min, u8max, u16min, u16max, u32min, u32max]; omega)) ?_)
      exact ⟨(i + 1, K4), ⟨by dsimp only; omega, he2⟩, by dsimp only; omega, Weak.b [0, 1, 328] 0⟩
  simp only [decide_eq_false_iff_not] at hc
  obtain rfl : i = e.l.length := by omega
  rw [List.take_length] at hK
  rw [← hK]
  obtain ⟨N1, hN1, p1⟩ : ∃ N, K = N ∧ N.length ≤ 589 := ⟨_, rfl, by
    have h1 := flat_le wrL 8 e.l fun x hx => by unfold wrL; simp only [List.length_append, numL_len]; omega
    have h2 : e.l.length * 8 ≤ 40 * 8 := Nat.mul_le_mul_right _ hl1
    rw [hK, List.length_append]; omega⟩
  rw [hN1]
  clear hK
  subst hN1
  have u2 := sp_rwN (by omega) (fit_len hy1) K (by omega)
  obtain ⟨N2, hN2, p2⟩ : ∃ N, K ++ numL 1 (e.y.length : Int) = N ∧ N.length ≤ 590 := ⟨_, rfl, by rw [List.length_append, numL_len]; omega⟩
  rw [hN2] at u2 ⊢
  simp only [go_sem, reduceIte, reduceCtorEq, Nat.reduceAdd, Nat.reduceMul, Nat.reduceSub, Nat.reduceDiv, Nat.reduceMod, Nat.reduceLeDiff, Nat.reduceEqDiff, Nat.reduceBEq, Nat.reduceBNe, Int.reduceBEq, Int.reduceBNe, Int.reduceAdd, Int.reduceSub, Int.reduceMul, Int.reduceLE, Int.reduceLT, Int.reduceEq, Int.reduceNeg, Int.reduceToNat, Nat.reduceLT]
  refine CallC.os u2 [1, 2] ?_
  rintro v ρ' ⟨rfl, rfl⟩
  simp only [go_sem, reduceIte, reduceCtorEq, Nat.reduceAdd, Nat.reduceMul, Nat.reduceSub, Nat.reduceDiv, Nat.reduceMod, Nat.reduceLeDiff, Nat.reduceEqDiff, Nat.reduceBEq, Nat.reduceBNe, Int.reduceBEq, Int.reduceBNe, Int.reduceAdd, Int.reduceSub, Int.reduceMul, Int.reduceLE, Int.reduceLT, Int.reduceEq, Int.reduceNeg, Int.reduceToNat, Nat.reduceLT]
  refine LoopC.inv follow (fun y : Nat × List Int => ⟨mkSl 170 [(1, .cv (.ptr 0 0 0 0)), (3, .cv (.ptr 1 0 0 0)), (5, iV y.1)], [(0, .cells e.cells), (1, .cells [.slc 2 1 0 y.2.length none]), (2, .recs 1 y.2.length (byf (lf y.2)))], 3⟩)
    (fun y => y.1 ≤ e.y.length ∧ y.2 = N2 ++ (e.y.take y.1).flatMap wrD) (fun y => e.y.length - y.1) (0, N2) ⟨Nat.zero_le _, (List.append_nil N2).symm⟩ (Weak.b [0, 1, 85] 0) ?_
  rintro ⟨i, K⟩ ⟨hi, hK⟩
  dsimp only at hi hK
  simp only [mkSl, Ent.cells, go_sem, reduceIte, reduceCtorEq, Nat.reduceAdd, Nat.reduceMul, Nat.reduceSub, Nat.reduceDiv, Nat.reduceMod, Nat.reduceLeDiff, Nat.reduceEqDiff, Nat.reduceBEq, Nat.reduceBNe, Int.reduceBEq, Int.reduceBNe, Int.reduceAdd, Int.reduceSub, Int.reduceMul, Int.reduceLE, Int.reduceLT, Int.reduceEq, Int.reduceNeg, Int.reduceToNat, Nat.reduceLT]
  refine CondC.of (fun hc => ?_) (fun hc => ?_)
  · simp only [decide_eq_true_eq] at hc
    have hc' : i < e.y.length := by omega
    have hx := hm.y.2 _ (getD_mem hc' (0, 0))
    have hKl : K.length ≤ 590 + 40 * 4 := by
      have h1 := flat_le wrD 4 (e.y.take i) fun x hx => by unfold wrD; simp only [List.length_append, numL_len]; omega
      have h2 : (e.y.take i).length * 4 ≤ 40 * 4 := Nat.mul_le_mul_right _ (by rw [List.length_take]; omega)
      rw [hK, List.length_append]; omega
    have t1 := sp_rwN (by omega) hx.1 K (by omega)
    obtain ⟨K1, hK1, hl1⟩ : ∃ M, K ++ numL 1 (e.y.getD i (0, 0)).1 = M ∧ M.length ≤ 590 + 40 * 4 + 4 := ⟨_, rfl, by simp only [List.length_append, numL_len]; omega⟩
    rw [hK1] at t1
    have t2 := sp_rwN (by omega) hx.2 K1 (by omega)
    obtain ⟨K2, hK2⟩ : ∃ M, K1 ++ numL 3 (e.y.getD i (0, 0)).2 = M := ⟨_, rfl⟩
    rw [hK2] at t2
    have he2 : K2 = N2 ++ (e.y.take (i + 1)).flatMap wrD := by
      rw [← hK2, ← hK1, hK, flat_step wrD (0, 0) e.y i hc']
      unfold wrD
      simp only [List.append_assoc]
    simp only [go_sem, reduceIte, reduceCtorEq, Nat.reduceAdd, Nat.reduceMul, Nat.reduceSub, Nat.reduceDiv, Nat.reduceMod, Nat.reduceLeDiff, Nat.reduceEqDiff, Nat.reduceBEq, Nat.reduceBNe, Int.reduceBEq, Int.reduceBNe, Int.reduceAdd, Int.reduceSub, Int.reduceMul, Int.reduceLE, Int.reduceLT, Int.reduceEq, Int.reduceNeg, Int.reduceToNat, Nat.reduceLT]
    repeat (refine And.intro (by first | omega | (unfold inI64; omega) | (simp only [u8min, u8max, u16min, u16max, u32min, u32max]; omega)) ?_)
    refine CallC.os t1 [1, 2] ?_
    rintro v ρ' ⟨rfl, rfl⟩
    simp only [go_sem, reduceIte, reduceCtorEq, Nat.reduceAdd, Nat.reduceMul, Nat.reduceSub, Nat.reduceDiv, Nat.reduceMod, Nat.reduceLeDiff, Nat.reduceEqDiff, Nat.reduceBEq, Nat.reduceBNe, Int.reduceBEq, Int.reduceBNe, Int.reduceAdd, Int.reduceSub, Int.reduceMul, Int.reduceLE, Int.reduceLT, Int.reduceEq, Int.reduceNeg, Int.reduceToNat, Nat.reduceLT]
    repeat (refine And.intro (by first | omega | (unfold inI64; omega) | (simp only [u8min, u8max, u16min, u16max, u32min, u32max]; omega)) ?_)
    refine CallC.os t2 [1, 112] ?_
    rintro v ρ' ⟨rfl, rfl⟩
    simp only [go_sem, reduceIte, reduceCtorEq, Nat.reduceAdd, Nat.reduceMul, Nat.reduceSub, Nat.reduceDiv, Nat.reduceMod, Nat.reduceLeDiff, Nat.reduceEqDiff, Nat.reduceBEq, Nat.reduceBNe, Int.reduceBEq, Int.reduceBNe, Int.reduceAdd, Int.reduceSub, Int.reduceMul, Int.reduceLE, Int.reduceLT, Int.reduceEq, Int.reduceNeg, Int.reduceToNat, Nat.reduceLT]
    repeat (refine And.intro (by first | omega | (unfold inI64; omega) | (simp only [u8min, u8max, u16min, u16max, u32min, u32max]; omega)) ?_)
    exact ⟨(i + 1, K2), ⟨by dsimp only; omega, he2⟩, by dsimp only; omega, Weak.b [0, 1, 184] 0⟩
  simp only [decide_eq_false_iff_not] at hc
  obtain rfl : i = e.y.length := by omega
  rw [List.take_length] at hK
  rw [← hK]
  have p3 : K.length ≤ 750 := by
    have h1 := flat_le wrD 4 e.y fun x hx => by unfold wrD; simp only [List.length_append, numL_len]; omega
    have h2 : e.y.length * 4 ≤ 40 * 4 := Nat.mul_le_mul_right _ hy1
    rw [hK, List.length_append]; omega
  clear hK
  have u3 := sp_rwN (by omega) (fit_len hq1) K (by omega)
  obtain ⟨N4, hN4, p4⟩ : ∃ N, K ++ numL 1 (e.q.length : Int) = N ∧ N.length ≤ 751 := ⟨_, rfl, by rw [List.length_append, numL_len]; omega⟩
  rw [hN4] at u3 ⊢
  simp only [go_sem, reduceIte, reduceCtorEq, Nat.reduceAdd, Nat.reduceMul, Nat.reduceSub, Nat.reduceDiv, Nat.reduceMod, Nat.reduceLeDiff, Nat.reduceEqDiff, Nat.reduceBEq, Nat.reduceBNe, Int.reduceBEq, Int.reduceBNe, Int.reduceAdd, Int.reduceSub, Int.reduceMul, Int.reduceLE, Int.reduceLT, Int.reduceEq, Int.reduceNeg, Int.reduceToNat, Nat.reduceLT]
  refine CallC.os u3 [1, 2] ?_
  rintro v ρ' ⟨rfl, rfl⟩
  simp only [go_sem, reduceIte, reduceCtorEq, Nat.reduceAdd, Nat.reduceMul, Nat.reduceSub, Nat.reduceDiv, Nat.reduceMod, Nat.reduceLeDiff, Nat.reduceEqDiff, Nat.reduceBEq, Nat.reduceBNe, Int.reduceBEq, Int.reduceBNe, Int.reduceAdd, Int.reduceSub, Int.reduceMul, Int.reduceLE, Int.reduceLT, Int.reduceEq, Int.reduceNeg, Int.reduceToNat, Nat.reduceLT]
  refine LoopC.inv follow (fun y : Nat × List Int => ⟨mkSl 170 [(1, .cv (.ptr 0 0 0 0)), (3, .cv (.ptr 1 0 0 0)), (6, iV y.1)], [(0, .cells e.cells), (1, .cells [.slc 2 1 0 y.2.length none]), (2, .recs 1 y.2.length (byf (lf y.2)))], 3⟩)
    (fun y => y.1 ≤ e.q.length ∧ y.2 = N4 ++ (e.q.take y.1).flatMap wrO) (fun y => e.q.length - y.1) (0, N4) ⟨Nat.zero_le _, (List.append_nil N4).symm⟩ (Weak.b [0, 1, 85] 0) ?_
  rintro ⟨i, K⟩ ⟨hi, hK⟩
  dsimp only at hi hK
  simp only [mkSl, Ent.cells, go_sem, reduceIte, reduceCtorEq, Nat.reduceAdd, Nat.reduceMul, Nat.reduceSub, Nat.reduceDiv, Nat.reduceMod, Nat.reduceLeDiff, Nat.reduceEqDiff, Nat.reduceBEq, Nat.reduceBNe, Int.reduceBEq, Int.reduceBNe, Int.reduceAdd, Int.reduceSub, Int.reduceMul, Int.reduceLE, Int.reduceLT, Int.reduceEq, Int.reduceNeg, Int.reduceToNat, Nat.reduceLT]
  refine CondC.of (fun hc => ?_) (fun hc => ?_)
  · simp only [decide_eq_true_eq] at hc
    have hc' : i < e.q.length := by omega
    have hx := hm.q.2 _ (getD_mem hc' (0, 0, []))
    have hKl : K.length ≤ 751 + 40 * 170 := by
      have h1 := flat_le wrO 170 (e.q.take i) fun x hx => by
        have h1 := flat_le wrM 4 x.2.2 fun y _ => by unfold wrM; simp only [List.length_append, numL_len]; omega
        have h2 := (hm.q.2 x (List.mem_of_mem_take hx)).2.2.1
        unfold wrO wrS
        simp only [List.length_append, numL_len]; omega
      have h2 : (e.q.take i).length * 170 ≤ 40 * 170 := Nat.mul_le_mul_right _ (by rw [List.length_take]; omega)
      rw [hK, List.length_append]; omega
    have t1 := sp_rwN (by omega) hx.1 K (by omega)
    obtain ⟨K1, hK1, hl1⟩ : ∃ M, K ++ numL 2 (e.q.getD i (0, 0, [])).1 = M ∧ M.length ≤ 751 + 40 * 170 + 4 := ⟨_, rfl, by simp only [List.length_append, numL_len]; omega⟩
    rw [hK1] at t1
    have t2 := sp_rwN (by omega) hx.2.1 K1 (by omega)
    obtain ⟨K2, hK2, hl2⟩ : ∃ M, K1 ++ numL 1 (e.q.getD i (0, 0, [])).2.1 = M ∧ M.length ≤ 751 + 40 * 170 + 8 := ⟨_, rfl, by simp only [List.length_append, numL_len]; omega⟩
    rw [hK2] at t2
    have t3 := sp_rwMoves _ hx.2.2 K2 (by omega)
    obtain ⟨K3, hK3⟩ : ∃ M, K2 ++ wrS wrM (e.q.getD i (0, 0, [])).2.2 = M := ⟨_, rfl⟩
    rw [hK3] at t3
    have he2 : K3 = N4 ++ (e.q.take (i + 1)).flatMap wrO := by
      rw [← hK3, ← hK2, ← hK1, hK, flat_step wrO (0, 0, []) e.q i hc']
      unfold wrO
      simp only [List.append_assoc]
    simp only [go_sem, reduceIte, reduceCtorEq, Nat.reduceAdd, Nat.reduceMul, Nat.reduceSub, Nat.reduceDiv, Nat.reduceMod, Nat.reduceLeDiff, Nat.reduceEqDiff, Nat.reduceBEq, Nat.reduceBNe, Int.reduceBEq, Int.reduceBNe, Int.reduceAdd, Int.reduceSub, Int.reduceMul, Int.reduceLE, Int.reduceLT, Int.reduceEq, Int.reduceNeg, Int.reduceToNat, Nat.reduceLT]
    repeat (refine And.intro (by first | omega | (unfold inI64; omega) | (simp only [u8min, u8max, u16min, u16max, u32min, u32max]; omega)) ?_)
    refine CallC.os t1 [1, 2] ?_
    rintro v ρ' ⟨rfl, rfl⟩
    simp only [go_sem, reduceIte, reduceCtorEq, Nat.reduceAdd, Nat.reduceMul, Nat.reduceSub, Nat.reduceDiv, Nat.reduceMod, Nat.reduceLeDiff, Nat.reduceEqDiff, Nat.reduceBEq, Nat.reduceBNe, Int.reduceBEq, Int.reduceBNe, Int.reduceAdd, Int.reduceSub, Int.reduceMul, Int.reduceLE, Int.reduceLT, Int.reduceEq, Int.reduceNeg, Int.reduceToNat, Nat.reduceLT]
    repeat (refine And.intro (by first | omega | (unfold inI64; omega) | (simp only [u8min, u8max, u16min, u16max, u32min, u32max]; omega)) ?_)
    refine CallC.os t2 [1, 112] ?_
    rintro v ρ' ⟨rfl, rfl⟩
    simp only [go_sem, reduceIte, reduceCtorEq, Nat.reduceAdd, Nat.reduceMul, Nat.reduceSub, Nat.reduceDiv, Nat.reduceMod, Nat.reduceLeDiff, Nat.reduceEqDiff, Nat.reduceBEq, Nat.reduceBNe, Int.reduceBEq, Int.reduceBNe, Int.reduceAdd, Int.reduceSub, Int.reduceMul, Int.reduceLE, Int.reduceLT, Int.reduceEq, Int.reduceNeg, Int.reduceToNat, Nat.reduceLT]
    repeat (refine And.intro (by first | omega | (unfold inI64; omega) | (simp only [u8min, u8max, u16min, u16max, u32min, u32max]; omega)) ?_)
    refine CallC.os t3 [1, 184] ?_
    rintro v ρ' ⟨rfl, rfl⟩
    simp only [go_sem, reduceIte, reduceCtorEq, Nat.reduceAdd, Nat.reduceMul, Nat.reduceSub, Nat.reduceDiv, Nat.reduceMod, Nat.reduceLeDiff, Nat.reduceEqDiff, Nat.reduceBEq, Nat.reduceBNe, Int.reduceBEq, Int.reduceBNe, Int.reduceAdd, Int.reduceSub, Int.reduceMul, Int.reduceLE, Int.reduceLT, Int.reduceEq, Int.reduceNeg, Int.reduceToNat, Nat.reduceLT]
    repeat (refine And.intro (by first | omega | (unfold inI64; omega) | (simp only [u8min, u8max, u16min, u16max, u32min, u32max]; omega)) ?_)
    exact ⟨(i + 1, K3), ⟨by dsimp only; omega, he2⟩, by dsimp only; omega, Weak.b [0, 1, 256] 0⟩
  simp only [decide_eq_false_iff_not] at hc
  obtain rfl : i = e.q.length := by omega
  rw [List.take_length] at hK
  rw [← hK]
  simp only [go_sem, reduceIte, reduceCtorEq, Nat.reduceAdd, Nat.reduceMul, Nat.reduceSub, Nat.reduceDiv, Nat.reduceMod, Nat.reduceLeDiff, Nat.reduceEqDiff, Nat.reduceBEq, Nat.reduceBNe, Int.reduceBEq, Int.reduceBNe, Int.reduceAdd, Int.reduceSub, Int.reduceMul, Int.reduceLE, Int.reduceLT, Int.reduceEq, Int.reduceNeg, Int.reduceToNat, Nat.reduceLT]
  exact RetC.back [2] ⟨rfl, rfl⟩ ⟨rfl, rfl, by repeat' (first | exact trivial | exact rfl | exact Or.inl rfl | exact slotW_ren _ | exact cvW_ren _ | exact cvsW_ren _ | exact Nat.le_refl _ | exact slotW_frz rfl (Nat.le_refl _) | exact slotW_nil (Nat.le_of_ble_eq_true rfl) | exact cvW_frz rfl (Nat.le_refl _) | exact cvW_nil (Nat.le_of_ble_eq_true rfl) | exact Or.inl fun _ _ => rfl | exact fun _ _ => rfl | exact Nat.le_of_ble_eq_true rfl | refine ⟨Or.inl ⟨Nat.le_of_ble_eq_true rfl, ?_⟩, ?_⟩ | refine ⟨Or.inr ⟨Nat.le_of_ble_eq_true rfl, Nat.le_of_ble_eq_true rfl, Nat.le_of_ble_eq_true rfl⟩, ?_⟩ | exact Or.inr ⟨rfl, rfl, rfl, rfl, Nat.le_of_ble_eq_true rfl, Nat.le_of_ble_eq_true rfl, Nat.le_of_ble_eq_true rfl⟩ | refine ⟨?_, ?_⟩), by repeat' (first | exact trivial | exact rfl | exact Or.inl rfl | exact slotW_ren _ | exact cvW_ren _ | exact cvsW_ren _ | exact Nat.le_refl _ | exact slotW_frz rfl (Nat.le_refl _) | exact slotW_nil (Nat.le_of_ble_eq_true rfl) | exact cvW_frz rfl (Nat.le_refl _) | exact cvW_nil (Nat.le_of_ble_eq_true rfl) | exact Or.inl fun _ _ => rfl | exact fun _ _ => rfl | exact Nat.le_of_ble_eq_true rfl | refine ⟨Or.inl ⟨Nat.le_of_ble_eq_true rfl, ?_⟩, ?_⟩ | refine ⟨Or.inr ⟨Nat.le_of_ble_eq_true rfl, Nat.le_of_ble_eq_true rfl, Nat.le_of_ble_eq_true rfl⟩, ?_⟩ | exact Or.inr ⟨rfl, rfl, rfl, rfl, Nat.le_of_ble_eq_true rfl, Nat.le_of_ble_eq_true rfl, Nat.le_of_ble_eq_true rfl⟩ | refine ⟨?_, ?_⟩), trivial, rfl⟩
end Go.Proofs.Ytbhefgajgdcajaa

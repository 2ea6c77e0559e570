/- Reading: places, moves, rows. -/
import Derived.Test.YtbhefgajgdcajaaSxShort
import Derived.Test.YtbhefgajgdcajaaEntRd
set_option linter.unusedVariables false
set_option linter.unusedSimpArgs false
namespace Go.Proofs.Ytbhefgajgdcajaa
open Sx
attribute [local go_sem] wpC_skip wpC_reg wpC_draw wpC_seq wpC_block wpC_cond wpC_loop wpC_exit wpC_join joinK_n joinK_e joinK_r wpC_ret seqK_n seqK_e seqK_r blockK_n blockK_e blockK_r Fs_nil Fs_none Fs_some stepS_eq Fc_nil Fc_none Fc_some stepC_eq opFn ev cval lk need SV.nm enumR setS setR setRs cellsOf svOf rget spliceC rset src oint eqCells cvs fillC rows ints svDest keyOf2 ridC widens ibool icalc ibin List.replicate List.getD_cons_zero List.getD_cons_succ List.getD_nil List.set_cons_zero List.set_cons_succ List.map_cons List.map_nil List.foldl_cons List.foldl_nil List.length_cons List.length_nil List.drop_zero List.drop_succ_cons List.drop_nil List.take_succ_cons List.take_zero List.take_nil List.cons_append List.nil_append List.append_nil List.headD_cons List.flatten_cons List.flatten_nil Option.map_some Option.map_none Option.getD_none Option.getD_some true_and and_true Nat.zero_add Nat.add_zero appFn svRoom sameO beq_self_eq_true Nat.zero_mul Nat.mul_zero Nat.sub_zero Nat.zero_le Nat.le_refl and_self okB Bool.not_false Bool.true_or Bool.false_or Bool.not_true List.all_nil List.all_cons Int.toNat_zero Int.toNat_one CondC_true CondC_false beq_true beq_false opEn callEn skipEn slotsOf tmpsOf SOp.operands oo free disj List.contains_cons List.contains_nil Option.toList_some Option.toList_none Bool.and_true Bool.true_and Bool.or_false Bool.or_true Bool.and_self Bool.and_false Bool.false_and decide_true decide_false List.range'_succ List.range'_zero Int.toNat_natCast Int.natCast_nonneg Int.cast_ofNat_Int ne_eq not_false_eq_true
set_option maxRecDepth 100000
theorem byts_rdR {s : St2} (h : byts s.1) : byts (rdR rNum s).2.1 := byts_rNum (byts_rNum h)
theorem byts_rdM {s : St2} (h : byts s.1) : byts (rdM rNum s).2.1 := byts_rdR (byts_rdR h)
theorem byts_rdD {s : St2} (h : byts s.1) : byts (rdD rNum s).2.1 := byts_rNum (byts_rNum h)
theorem byts_rdL {s : St2} (h : byts s.1) : byts (rdL s).2.1 := byts_rNum (byts_rNum (byts_rNum (byts_rNum h)))
theorem byts_reads {α : Type} {r : Rdr α} (hr : ∀ s, byts s.1 → byts (r s).2.1) : ∀ (n : Nat) (s : St2), byts s.1 → byts (reads r n s).2.1
  | 0, _, h => h
  | n + 1, s, h => by
    unfold reads
    split
    · exact h
    · exact byts_reads hr n _ (hr s h)
theorem byts_rList {α : Type} {r : Rdr α} (hr : ∀ s, byts s.1 → byts (r s).2.1) {s : St2} (h : byts s.1) : byts (rList r s).2.1 := byts_reads hr _ _ (byts_rNum h)
theorem byts_rdO {s : St2} (h : byts s.1) : byts (rdO s).2.1 := byts_rList (fun _ => byts_rdM) (byts_rNum (byts_rNum h))
theorem byts_rImg {s : St2} (h : byts s.1) : byts (rImg s).2.1 := (byts_rTake (byts_rNum h)).2
theorem sp_rdSpot (s : St2) (hb : byts s.1) : FSpec Try.prog 23 [.cv (.ptr 0 0 0 0)] [rS s] (fun v ρ' => v = .agg [iC (rdR rNum s).1.1, iC (rdR rNum s).1.2] ∧ ρ' = [rS (rdR rNum s).2]) := by
  have h1 := sp_rdNum 1 (by omega) s hb
  have h2 := sp_rdNum 1 (by omega) (rNum 1 s).2 (byts_rNum hb)
  unfold rdR
  obtain ⟨A, hA⟩ : ∃ A, rNum 1 s = A := ⟨_, rfl⟩
  rw [hA] at h1 h2 ⊢
  obtain ⟨B, hB⟩ : ∃ B, rNum 1 A.2 = B := ⟨_, rfl⟩
  rw [hB] at h2 ⊢
  refine FSpec.of follow Try.func23 c23 (Nat.le_of_ble_eq_true rfl) fun hf => ?_
  simp only [sc23, go_sem, reduceIte, reduceCtorEq, Nat.reduceAdd, Nat.reduceMul, Nat.reduceSub, Nat.reduceDiv, Nat.reduceMod, Nat.reduceLeDiff, Nat.reduceEqDiff, Nat.reduceBEq, Nat.reduceBNe, Int.reduceBEq, Int.reduceBNe, Int.reduceAdd, Int.reduceSub, Int.reduceMul, Int.reduceLE, Int.reduceLT, Int.reduceEq, Int.reduceNeg, Int.reduceToNat, Nat.reduceLT]
  refine CallC.os h1 [0] ?_
  rintro v ρ' ⟨rfl, rfl⟩
  simp only [updGiven, updNew, getR, muOf, nuOf, owned, isRo, List.range, List.range.loop, List.filter, SV.ren, CV.ren, CV.renL, SV.renL, Res.ren, List.length, List.getD_cons_zero, List.getD_cons_succ, List.idxOf?, List.findIdx?, List.findIdx?.go, slotsW, slotW, fitL, fit, disB, Nat.reduceLT, reduceIte, go_sem, reduceIte, reduceCtorEq, Nat.reduceAdd, Nat.reduceMul, Nat.reduceSub, Nat.reduceDiv, Nat.reduceMod, Nat.reduceLeDiff, Nat.reduceEqDiff, Nat.reduceBEq, Nat.reduceBNe, Int.reduceBEq, Int.reduceBNe, Int.reduceAdd, Int.reduceSub, Int.reduceMul, Int.reduceLE, Int.reduceLT, Int.reduceEq, Int.reduceNeg, Int.reduceToNat, Nat.reduceLT]
  refine CallC.os h2 [0] ?_
  rintro v ρ' ⟨rfl, rfl⟩
  simp only [updGiven, updNew, getR, muOf, nuOf, owned, isRo, List.range, List.range.loop, List.filter, SV.ren, CV.ren, CV.renL, SV.renL, Res.ren, List.length, List.getD_cons_zero, List.getD_cons_succ, List.idxOf?, List.findIdx?, List.findIdx?.go, slotsW, slotW, fitL, fit, disB, Nat.reduceLT, reduceIte, go_sem, reduceIte, reduceCtorEq, Nat.reduceAdd, Nat.reduceMul, Nat.reduceSub, Nat.reduceDiv, Nat.reduceMod, Nat.reduceLeDiff, Nat.reduceEqDiff, Nat.reduceBEq, Nat.reduceBNe, Int.reduceBEq, Int.reduceBNe, Int.reduceAdd, Int.reduceSub, Int.reduceMul, Int.reduceLE, Int.reduceLT, Int.reduceEq, Int.reduceNeg, Int.reduceToNat, Nat.reduceLT]
  refine RetC.bk [] ⟨rfl, rfl⟩
theorem sp_rdMove (s : St2) (hb : byts s.1) : FSpec Try.prog 26 [.cv (.ptr 0 0 0 0)] [rS s] (fun v ρ' => v = .agg [iC (rdM rNum s).1.1, iC (rdM rNum s).1.2.1, iC (rdM rNum s).1.2.2.1, iC (rdM rNum s).1.2.2.2] ∧ ρ' = [rS (rdM rNum s).2]) := by
  have h1 := sp_rdSpot s hb
  have h2 := sp_rdSpot (rdR rNum s).2 (byts_rdR hb)
  unfold rdM
  obtain ⟨A, hA⟩ : ∃ A, rdR rNum s = A := ⟨_, rfl⟩
  rw [hA] at h1 h2 ⊢
  obtain ⟨B, hB⟩ : ∃ B, rdR rNum A.2 = B := ⟨_, rfl⟩
  rw [hB] at h2 ⊢
  refine FSpec.of follow Try.func26 c26 (Nat.le_of_ble_eq_true rfl) fun hf => ?_
  simp only [sc26, go_sem, reduceIte, reduceCtorEq, Nat.reduceAdd, Nat.reduceMul, Nat.reduceSub, Nat.reduceDiv, Nat.reduceMod, Nat.reduceLeDiff, Nat.reduceEqDiff, Nat.reduceBEq, Nat.reduceBNe, Int.reduceBEq, Int.reduceBNe, Int.reduceAdd, Int.reduceSub, Int.reduceMul, Int.reduceLE, Int.reduceLT, Int.reduceEq, Int.reduceNeg, Int.reduceToNat, Nat.reduceLT]
  refine CallC.os h1 [0] ?_
  rintro v ρ' ⟨rfl, rfl⟩
  simp only [updGiven, updNew, getR, muOf, nuOf, owned, isRo, List.range, List.range.loop, List.filter, SV.ren, CV.ren, CV.renL, SV.renL, Res.ren, List.length, List.getD_cons_zero, List.getD_cons_succ, List.idxOf?, List.findIdx?, List.findIdx?.go, slotsW, slotW, fitL, fit, disB, Nat.reduceLT, reduceIte, go_sem, reduceIte, reduceCtorEq, Nat.reduceAdd, Nat.reduceMul, Nat.reduceSub, Nat.reduceDiv, Nat.reduceMod, Nat.reduceLeDiff, Nat.reduceEqDiff, Nat.reduceBEq, Nat.reduceBNe, Int.reduceBEq, Int.reduceBNe, Int.reduceAdd, Int.reduceSub, Int.reduceMul, Int.reduceLE, Int.reduceLT, Int.reduceEq, Int.reduceNeg, Int.reduceToNat, Nat.reduceLT]
  refine CallC.os h2 [0] ?_
  rintro v ρ' ⟨rfl, rfl⟩
  simp only [updGiven, updNew, getR, muOf, nuOf, owned, isRo, List.range, List.range.loop, List.filter, SV.ren, CV.ren, CV.renL, SV.renL, Res.ren, List.length, List.getD_cons_zero, List.getD_cons_succ, List.idxOf?, List.findIdx?, List.findIdx?.go, slotsW, slotW, fitL, fit, disB, Nat.reduceLT, reduceIte, go_sem, reduceIte, reduceCtorEq, Nat.reduceAdd, Nat.reduceMul, Nat.reduceSub, Nat.reduceDiv, Nat.reduceMod, Nat.reduceLeDiff, Nat.reduceEqDiff, Nat.reduceBEq, Nat.reduceBNe, Int.reduceBEq, Int.reduceBNe, Int.reduceAdd, Int.reduceSub, Int.reduceMul, Int.reduceLE, Int.reduceLT, Int.reduceEq, Int.reduceNeg, Int.reduceToNat, Nat.reduceLT]
  refine RetC.bk [] ⟨rfl, rfl⟩
theorem sp_rdDirty (s : St2) (hb : byts s.1) : FSpec Try.prog 30 [.cv (.ptr 0 0 0 0)] [rS s] (fun v ρ' => v = .agg [iC (rdD rNum s).1.1, iC (rdD rNum s).1.2] ∧ ρ' = [rS (rdD rNum s).2]) := by
  have h1 := sp_rdNum 1 (by omega) s hb
  have h2 := sp_rdNum 3 (by omega) (rNum 1 s).2 (byts_rNum hb)
  unfold rdD
  obtain ⟨A, hA⟩ : ∃ A, rNum 1 s = A := ⟨_, rfl⟩
  rw [hA] at h1 h2 ⊢
  obtain ⟨B, hB⟩ : ∃ B, rNum 3 A.2 = B := ⟨_, rfl⟩
  rw [hB] at h2 ⊢
  refine FSpec.of follow Try.func30 c30 (Nat.le_of_ble_eq_true rfl) fun hf => ?_
  simp only [sc30, go_sem, reduceIte, reduceCtorEq, Nat.reduceAdd, Nat.reduceMul, Nat.reduceSub, Nat.reduceDiv, Nat.reduceMod, Nat.reduceLeDiff, Nat.reduceEqDiff, Nat.reduceBEq, Nat.reduceBNe, Int.reduceBEq, Int.reduceBNe, Int.reduceAdd, Int.reduceSub, Int.reduceMul, Int.reduceLE, Int.reduceLT, Int.reduceEq, Int.reduceNeg, Int.reduceToNat, Nat.reduceLT]
  refine CallC.os h1 [0] ?_
  rintro v ρ' ⟨rfl, rfl⟩
  simp only [updGiven, updNew, getR, muOf, nuOf, owned, isRo, List.range, List.range.loop, List.filter, SV.ren, CV.ren, CV.renL, SV.renL, Res.ren, List.length, List.getD_cons_zero, List.getD_cons_succ, List.idxOf?, List.findIdx?, List.findIdx?.go, slotsW, slotW, fitL, fit, disB, Nat.reduceLT, reduceIte, go_sem, reduceIte, reduceCtorEq, Nat.reduceAdd, Nat.reduceMul, Nat.reduceSub, Nat.reduceDiv, Nat.reduceMod, Nat.reduceLeDiff, Nat.reduceEqDiff, Nat.reduceBEq, Nat.reduceBNe, Int.reduceBEq, Int.reduceBNe, Int.reduceAdd, Int.reduceSub, Int.reduceMul, Int.reduceLE, Int.reduceLT, Int.reduceEq, Int.reduceNeg, Int.reduceToNat, Nat.reduceLT]
  refine CallC.os h2 [0] ?_
  rintro v ρ' ⟨rfl, rfl⟩
  simp only [updGiven, updNew, getR, muOf, nuOf, owned, isRo, List.range, List.range.loop, List.filter, SV.ren, CV.ren, CV.renL, SV.renL, Res.ren, List.length, List.getD_cons_zero, List.getD_cons_succ, List.idxOf?, List.findIdx?, List.findIdx?.go, slotsW, slotW, fitL, fit, disB, Nat.reduceLT, reduceIte, go_sem, reduceIte, reduceCtorEq, Nat.reduceAdd, Nat.reduceMul, Nat.reduceSub, Nat.reduceDiv, Nat.reduceMod, Nat.reduceLeDiff, Nat.reduceEqDiff, Nat.reduceBEq, Nat.reduceBNe, Int.reduceBEq, Int.reduceBNe, Int.reduceAdd, Int.reduceSub, Int.reduceMul, Int.reduceLE, Int.reduceLT, Int.reduceEq, Int.reduceNeg, Int.reduceToNat, Nat.reduceLT]
  refine RetC.bk [] ⟨rfl, rfl⟩
theorem sp_rdLive (s : St2) (hb : byts s.1) : FSpec Try.prog 28 [.cv (.ptr 0 0 0 0)] [rS s] (fun v ρ' => v = .agg [iC (rdL s).1.1, iC (rdL s).1.2.1, iC (rdL s).1.2.2.1, bC (rdL s).1.2.2.2] ∧ ρ' = [rS (rdL s).2]) := by
  have h1 := sp_rdNum 1 (by omega) s hb
  have b1 := byts_rNum (n := 1) hb
  have h2 := sp_rdNum 3 (by omega) _ b1
  have b2 := byts_rNum (n := 3) b1
  have h3 := sp_rdNum 3 (by omega) _ b2
  have b3 := byts_rNum (n := 3) b2
  have h4 := sp_rdNum 1 (by omega) _ b3
  unfold rdL
  dsimp only
  obtain ⟨A, hA⟩ : ∃ A, rNum 1 s = A := ⟨_, rfl⟩
  rw [hA] at h1 h2 h3 h4 ⊢
  obtain ⟨B, hB⟩ : ∃ B, rNum 3 A.2 = B := ⟨_, rfl⟩
  rw [hB] at h2 h3 h4 ⊢
  obtain ⟨C, hC⟩ : ∃ C, rNum 3 B.2 = C := ⟨_, rfl⟩
  rw [hC] at h3 h4 ⊢
  obtain ⟨D, hD⟩ : ∃ D, rNum 1 C.2 = D := ⟨_, rfl⟩
  rw [hD] at h4 ⊢
  refine FSpec.of follow Try.func28 c28 (Nat.le_of_ble_eq_true rfl) fun hf => ?_
  simp only [sc28, go_sem, reduceIte, reduceCtorEq, Nat.reduceAdd, Nat.reduceMul, Nat.reduceSub, Nat.reduceDiv, Nat.reduceMod, Nat.reduceLeDiff, Nat.reduceEqDiff, Nat.reduceBEq, Nat.reduceBNe, Int.reduceBEq, Int.reduceBNe, Int.reduceAdd, Int.reduceSub, Int.reduceMul, Int.reduceLE, Int.reduceLT, Int.reduceEq, Int.reduceNeg, Int.reduceToNat, Nat.reduceLT]
  refine CallC.os h1 [0] ?_
  rintro v ρ' ⟨rfl, rfl⟩
  simp only [updGiven, updNew, getR, muOf, nuOf, owned, isRo, List.range, List.range.loop, List.filter, SV.ren, CV.ren, CV.renL, SV.renL, Res.ren, List.length, List.getD_cons_zero, List.getD_cons_succ, List.idxOf?, List.findIdx?, List.findIdx?.go, slotsW, slotW, fitL, fit, disB, Nat.reduceLT, reduceIte, go_sem, reduceIte, reduceCtorEq, Nat.reduceAdd, Nat.reduceMul, Nat.reduceSub, Nat.reduceDiv, Nat.reduceMod, Nat.reduceLeDiff, Nat.reduceEqDiff, Nat.reduceBEq, Nat.reduceBNe, Int.reduceBEq, Int.reduceBNe, Int.reduceAdd, Int.reduceSub, Int.reduceMul, Int.reduceLE, Int.reduceLT, Int.reduceEq, Int.reduceNeg, Int.reduceToNat, Nat.reduceLT]
  refine CallC.os h2 [0] ?_
  rintro v ρ' ⟨rfl, rfl⟩
  simp only [updGiven, updNew, getR, muOf, nuOf, owned, isRo, List.range, List.range.loop, List.filter, SV.ren, CV.ren, CV.renL, SV.renL, Res.ren, List.length, List.getD_cons_zero, List.getD_cons_succ, List.idxOf?, List.findIdx?, List.findIdx?.go, slotsW, slotW, fitL, fit, disB, Nat.reduceLT, reduceIte, go_sem, reduceIte, reduceCtorEq, Nat.reduceAdd, Nat.reduceMul, Nat.reduceSub, Nat.reduceDiv, Nat.reduceMod, Nat.reduceLeDiff, Nat.reduceEqDiff, Nat.reduceBEq, Nat.reduceBNe, Int.reduceBEq, Int.reduceBNe, Int.reduceAdd, Int.reduceSub, Int.reduceMul, Int.reduceLE, Int.reduceLT, Int.reduceEq, Int.reduceNeg, Int.reduceToNat, Nat.reduceLT]
  refine CallC.os h3 [0] ?_
  rintro v ρ' ⟨rfl, rfl⟩
  simp only [updGiven, updNew, getR, muOf, nuOf, owned, isRo, List.range, List.range.loop, List.filter, SV.ren, CV.ren, CV.renL, SV.renL, Res.ren, List.length, List.getD_cons_zero, List.getD_cons_succ, List.idxOf?, List.findIdx?, List.findIdx?.go, slotsW, slotW, fitL, fit, disB, Nat.reduceLT, reduceIte, go_sem, reduceIte, reduceCtorEq, Nat.reduceAdd, Nat.reduceMul, Nat.reduceSub, Nat.reduceDiv, Nat.reduceMod, Nat.reduceLeDiff, Nat.reduceEqDiff, Nat.reduceBEq, Nat.reduceBNe, Int.reduceBEq, Int.reduceBNe, Int.reduceAdd, Int.reduceSub, Int.reduceMul, Int.reduceLE, Int.reduceLT, Int.reduceEq, Int.reduceNeg, Int.reduceToNat, Nat.reduceLT]
  refine CallC.os h4 [0] ?_
  rintro v ρ' ⟨rfl, rfl⟩
  simp only [updGiven, updNew, getR, muOf, nuOf, owned, isRo, List.range, List.range.loop, List.filter, SV.ren, CV.ren, CV.renL, SV.renL, Res.ren, List.length, List.getD_cons_zero, List.getD_cons_succ, List.idxOf?, List.findIdx?, List.findIdx?.go, slotsW, slotW, fitL, fit, disB, Nat.reduceLT, reduceIte, go_sem, reduceIte, reduceCtorEq, Nat.reduceAdd, Nat.reduceMul, Nat.reduceSub, Nat.reduceDiv, Nat.reduceMod, Nat.reduceLeDiff, Nat.reduceEqDiff, Nat.reduceBEq, Nat.reduceBNe, Int.reduceBEq, Int.reduceBNe, Int.reduceAdd, Int.reduceSub, Int.reduceMul, Int.reduceLE, Int.reduceLT, Int.reduceEq, Int.reduceNeg, Int.reduceToNat, Nat.reduceLT]
  refine RetC.bk [] ⟨rfl, rfl⟩
theorem cvsW_of {rs : List (Nat × Res)} {ν : Nat → Option Nat} {lo hi : Nat} {g f f' : List CV} (h : f = f') (k : cvsW rs ν lo hi g f') : cvsW rs ν lo hi g f := h ▸ k
theorem reads_zero {α : Type} (r : Rdr α) (s : St2) : reads r 0 s = ([], s) := rfl
theorem reads_bad {α : Type} (r : Rdr α) (k : Nat) (s : St2) (h : s.2 = true) : reads r k s = ([], s) := by
  cases k with
  | zero => rfl
  | succ k => unfold reads; rw [if_pos h]
theorem reads_step {α : Type} (r : Rdr α) (k : Nat) (s : St2) (h : s.2 = false) : reads r (k + 1) s = ((r s).1 :: (reads r k (r s).2).1, (reads r k (r s).2).2) := by
  rw [reads, if_neg (by rw [h]; decide)]
end Go.Proofs.Ytbhefgajgdcajaa

/- Reading: the document's. -/
import Derived.Test.YtbhefgajgdcajaaSxShort
import Derived.Test.YtbhefgajgdcajaaEntRWr
set_option linter.unusedVariables false
set_option linter.unusedSimpArgs false
namespace Go.Proofs.Ytbhefgajgdcajaa
open Sx
attribute [local go_sem] wpC_skip wpC_reg wpC_draw wpC_seq wpC_block wpC_cond wpC_loop wpC_exit wpC_join joinK_n joinK_e joinK_r wpC_ret seqK_n seqK_e seqK_r blockK_n blockK_e blockK_r Fs_nil Fs_none Fs_some stepS_eq Fc_nil Fc_none Fc_some stepC_eq opFn ev cval lk need SV.nm enumR setS setR setRs cellsOf svOf rget spliceC rset src oint eqCells cvs fillC rows ints svDest keyOf2 ridC widens ibool icalc ibin List.replicate List.getD_cons_zero List.getD_cons_succ List.getD_nil List.set_cons_zero List.set_cons_succ List.map_cons List.map_nil List.foldl_cons List.foldl_nil List.length_cons List.length_nil List.drop_zero List.drop_succ_cons List.drop_nil List.take_succ_cons List.take_zero List.take_nil List.cons_append List.nil_append List.append_nil List.headD_cons List.flatten_cons List.flatten_nil Option.map_some Option.map_none Option.getD_none Option.getD_some true_and and_true Nat.zero_add Nat.add_zero appFn svRoom sameO beq_self_eq_true Nat.zero_mul Nat.mul_zero Nat.sub_zero Nat.zero_le Nat.le_refl and_self okB Bool.not_false Bool.true_or Bool.false_or Bool.not_true List.all_nil List.all_cons Int.toNat_zero Int.toNat_one CondC_true CondC_false beq_true beq_false opEn callEn skipEn slotsOf tmpsOf SOp.operands oo free disj List.contains_cons List.contains_nil Option.toList_some Option.toList_none Bool.and_true Bool.true_and Bool.or_false Bool.or_true Bool.and_self Bool.and_false Bool.false_and decide_true decide_false List.range'_succ List.range'_zero Int.toNat_natCast Int.natCast_nonneg Int.cast_ofNat_Int ne_eq not_false_eq_true updGiven updNew getR muOf nuOf owned isRo List.range.loop List.filter SV.ren CV.ren CV.renL SV.renL Res.ren List.length List.idxOf? List.findIdx? List.findIdx?.go slotsW slotW disB List.range
set_option maxRecDepth 100000
theorem byts_qTake {n : Nat} {s : St2} (h : byts s.1) : byts (qTake n s).1 ∧ byts (qTake n s).2.1 := by
  unfold qTake
  split
  · exact ⟨byts_zeros n, h⟩
  · exact ⟨byts_take h n, byts_drop h n⟩
theorem len_qTake (n : Nat) (s : St2) : (qTake n s).1.length = n := by
  unfold qTake
  split
  · simp [zeros]
  · rename_i h
    rw [List.length_take]
    have : ¬ s.1.length < n := fun k => h (.inr k)
    omega
theorem byts_qNum {n : Nat} {s : St2} (h : byts s.1) : byts (qNum n s).2.1 := (byts_qTake h).2
theorem fit_qNum {n : Nat} (hn : n ≤ 3) {s : St2} (h : byts s.1) : fit n (qNum n s).1 := by
  have h1 := fit_val (byts_qTake (n := n) h).1 (by rw [len_qTake]; exact hn)
  rw [len_qTake] at h1
  exact h1.1
theorem byts_qdR {s : St2} (h : byts s.1) : byts (rdR qNum s).2.1 := byts_qNum (byts_qNum h)
theorem byts_qdM {s : St2} (h : byts s.1) : byts (rdM qNum s).2.1 := byts_qdR (byts_qdR h)
theorem byts_qMany {s : St2} (h : byts s.1) : byts (qMany s).2.1 := by
  unfold qMany
  split
  · exact byts_qNum h
  · exact byts_qNum h
theorem byts_qList {α : Type} {r : Rdr α} (hr : ∀ s, byts s.1 → byts (r s).2.1) {s : St2} (h : byts s.1) : byts (qList r s).2.1 := byts_reads hr _ _ (byts_qMany h)
theorem byts_qCell {s : St2} (h : byts s.1) : byts (qCell s).1 ∧ byts (qCell s).2.1 := by
  unfold qCell
  dsimp only
  split
  · exact ⟨byts_nil, byts_qNum h⟩
  · exact byts_qTake (s := ((qNum 1 s).2.1, _)) (byts_qNum h)

set_option maxHeartbeats 4000000 in
theorem sp_rrTake (n : Nat) (hn : n ≤ 1000) (s : St2) : FSpec Try.prog 80 [.cv (.ptr 0 0 0 0), iV n] [rS s] (fun v ρ' => v = .cv (lbC (qTake n s).1) ∧ ρ' = [rS (qTake n s).2]) := by
  obtain ⟨L, b⟩ := s
  refine FSpec.of follow Try.func80 c80 (Nat.le_of_ble_eq_true rfl) fun hf => ?_
  unfold qTake
  dsimp only
  cases b
  case true =>
    rw [if_pos (.inl rfl), lbC_zeros]
    simp only [sc80, go_sem, reduceIte, reduceCtorEq, Nat.reduceAdd, Nat.reduceMul, Nat.reduceSub, Nat.reduceDiv, Nat.reduceMod, Nat.reduceLeDiff, Nat.reduceEqDiff, Nat.reduceBEq, Nat.reduceBNe, Int.reduceBEq, Int.reduceBNe, Int.reduceAdd, Int.reduceSub, Int.reduceMul, Int.reduceLE, Int.reduceLT, Int.reduceEq, Int.reduceNeg, Int.reduceToNat, Nat.reduceLT]
    repeat (refine And.intro (by first | omega | (unfold inI64; omega) | (simp only [u8min, u8max, u16min, u16max, u32min, u32max]; omega)) ?_)
    refine RetC.fz [(164, .frz 1 n (byf fun _ => 0))] [] ⟨rfl, rfl⟩ ⟨⟨rfl, Nat.le_refl _, .inl fun j hj => rfl⟩, trivial⟩ ⟨rfl, rfl, ?_, ?_, trivial, rfl⟩ <;> repeat' (first | exact trivial | exact rfl | exact Or.inl rfl | exact slotW_ren _ | exact cvW_ren _ | exact cvsW_ren _ | exact Nat.le_refl _ | exact slotW_frz rfl (Nat.le_refl _) | exact slotW_nil (Nat.le_of_ble_eq_true rfl) | exact cvW_frz rfl (Nat.le_refl _) | exact cvW_nil (Nat.le_of_ble_eq_true rfl) | exact Or.inl fun _ _ => rfl | exact fun _ _ => rfl | exact Nat.le_of_ble_eq_true rfl | refine ⟨Or.inl ⟨Nat.le_of_ble_eq_true rfl, ?_⟩, ?_⟩ | refine ⟨Or.inr ⟨Nat.le_of_ble_eq_true rfl, Nat.le_of_ble_eq_true rfl, Nat.le_of_ble_eq_true rfl⟩, ?_⟩ | exact Or.inr ⟨rfl, rfl, rfl, rfl, Nat.le_of_ble_eq_true rfl, Nat.le_of_ble_eq_true rfl, Nat.le_of_ble_eq_true rfl⟩ | refine ⟨?_, ?_⟩)
  by_cases h : L.length < n
  · have e1 : decide ((n : Int) > L.length) = true := decide_eq_true (by omega)
    rw [if_pos (.inr h), lbC_zeros]
    simp only [sc80, e1, go_sem, reduceIte, reduceCtorEq, Nat.reduceAdd, Nat.reduceMul, Nat.reduceSub, Nat.reduceDiv, Nat.reduceMod, Nat.reduceLeDiff, Nat.reduceEqDiff, Nat.reduceBEq, Nat.reduceBNe, Int.reduceBEq, Int.reduceBNe, Int.reduceAdd, Int.reduceSub, Int.reduceMul, Int.reduceLE, Int.reduceLT, Int.reduceEq, Int.reduceNeg, Int.reduceToNat, Nat.reduceLT]
    repeat (refine And.intro (by first | omega | (unfold inI64; omega) | (simp only [u8min, u8max, u16min, u16max, u32min, u32max]; omega)) ?_)
    refine RetC.fz [(164, .frz 1 n (byf fun _ => 0))] [] ⟨rfl, rfl⟩ ⟨⟨rfl, Nat.le_refl _, .inl fun j hj => rfl⟩, trivial⟩ ⟨rfl, rfl, ?_, ?_, trivial, rfl⟩ <;> repeat' (first | exact trivial | exact rfl | exact Or.inl rfl | exact slotW_ren _ | exact cvW_ren _ | exact cvsW_ren _ | exact Nat.le_refl _ | exact slotW_frz rfl (Nat.le_refl _) | exact slotW_nil (Nat.le_of_ble_eq_true rfl) | exact cvW_frz rfl (Nat.le_refl _) | exact cvW_nil (Nat.le_of_ble_eq_true rfl) | exact Or.inl fun _ _ => rfl | exact fun _ _ => rfl | exact Nat.le_of_ble_eq_true rfl | refine ⟨Or.inl ⟨Nat.le_of_ble_eq_true rfl, ?_⟩, ?_⟩ | refine ⟨Or.inr ⟨Nat.le_of_ble_eq_true rfl, Nat.le_of_ble_eq_true rfl, Nat.le_of_ble_eq_true rfl⟩, ?_⟩ | exact Or.inr ⟨rfl, rfl, rfl, rfl, Nat.le_of_ble_eq_true rfl, Nat.le_of_ble_eq_true rfl, Nat.le_of_ble_eq_true rfl⟩ | refine ⟨?_, ?_⟩)
  · have e1 : decide ((n : Int) > L.length) = false := decide_eq_false (by omega)
    rw [if_neg (fun k => k.elim (by decide) h)]
    dsimp only [rS]
    rw [lbC_take (by omega), lbC_drop]
    simp only [sc80, e1, go_sem, reduceIte, reduceCtorEq, Nat.reduceAdd, Nat.reduceMul, Nat.reduceSub, Nat.reduceDiv, Nat.reduceMod, Nat.reduceLeDiff, Nat.reduceEqDiff, Nat.reduceBEq, Nat.reduceBNe, Int.reduceBEq, Int.reduceBNe, Int.reduceAdd, Int.reduceSub, Int.reduceMul, Int.reduceLE, Int.reduceLT, Int.reduceEq, Int.reduceNeg, Int.reduceToNat, Nat.reduceLT]
    repeat (refine And.intro (by first | omega | (unfold inI64; omega) | (simp only [u8min, u8max, u16min, u16max, u32min, u32max]; omega)) ?_)
    refine RetC.fz [(282, .frz 1 n (byf (lf (L.take n))))] [] ⟨rfl, rfl⟩ ⟨⟨rfl, Nat.le_refl _, .inl fun j hj => rb ?_⟩, trivial⟩ ⟨rfl, rfl, ?_, ?_, trivial, rfl⟩
    · rw [show byf (lf (L.take n)) j = byf (lf L) j by simp only [byf, lf_take L n j hj]]
      (repeat' split) <;> first | rfl | (exfalso; omega)
    all_goals repeat' (first | exact trivial | exact rfl | exact Or.inl rfl | exact slotW_ren _ | exact cvW_ren _ | exact cvsW_ren _ | exact Nat.le_refl _ | exact slotW_frz rfl (Nat.le_refl _) | exact slotW_nil (Nat.le_of_ble_eq_true rfl) | exact cvW_frz rfl (Nat.le_refl _) | exact cvW_nil (Nat.le_of_ble_eq_true rfl) | exact Or.inl fun _ _ => rfl | exact fun _ _ => rfl | exact Nat.le_of_ble_eq_true rfl | refine ⟨Or.inl ⟨Nat.le_of_ble_eq_true rfl, ?_⟩, ?_⟩ | refine ⟨Or.inr ⟨Nat.le_of_ble_eq_true rfl, Nat.le_of_ble_eq_true rfl, Nat.le_of_ble_eq_true rfl⟩, ?_⟩ | exact Or.inr ⟨rfl, rfl, rfl, rfl, Nat.le_of_ble_eq_true rfl, Nat.le_of_ble_eq_true rfl, Nat.le_of_ble_eq_true rfl⟩ | refine ⟨?_, ?_⟩)
theorem sp_rrNum (n : Nat) (hn : n ≤ 3) (s : St2) (hb : byts s.1) : FSpec Try.prog 34 [.cv (.ptr 0 0 0 0), iV n] [rS s] (fun v ρ' => v = iV (qNum n s).1 ∧ ρ' = [rS (qNum n s).2]) := by
  have h1 := sp_rrTake n (by omega) s
  have hT := (byts_qTake (n := n) hb).1
  have hl := len_qTake n s
  unfold qNum
  obtain ⟨R, hR⟩ : ∃ R, qTake n s = R := ⟨_, rfl⟩
  rw [hR] at h1 hT hl ⊢
  obtain ⟨T, u⟩ := R
  dsimp only at h1 hT hl ⊢
  have h2 := sp_said T hT (by omega)
  refine FSpec.of follow Try.func34 c34 (Nat.le_of_ble_eq_true rfl) fun hf => ?_
  simp only [sc34, go_sem, reduceIte, reduceCtorEq, Nat.reduceAdd, Nat.reduceMul, Nat.reduceSub, Nat.reduceDiv, Nat.reduceMod, Nat.reduceLeDiff, Nat.reduceEqDiff, Nat.reduceBEq, Nat.reduceBNe, Int.reduceBEq, Int.reduceBNe, Int.reduceAdd, Int.reduceSub, Int.reduceMul, Int.reduceLE, Int.reduceLT, Int.reduceEq, Int.reduceNeg, Int.reduceToNat, Nat.reduceLT]
  refine CallC.os h1 [0] ?_
  rintro v ρ' ⟨rfl, rfl⟩
  simp only [go_sem, reduceIte, reduceCtorEq, Nat.reduceAdd, Nat.reduceMul, Nat.reduceSub, Nat.reduceDiv, Nat.reduceMod, Nat.reduceLeDiff, Nat.reduceEqDiff, Nat.reduceBEq, Nat.reduceBNe, Int.reduceBEq, Int.reduceBNe, Int.reduceAdd, Int.reduceSub, Int.reduceMul, Int.reduceLE, Int.reduceLT, Int.reduceEq, Int.reduceNeg, Int.reduceToNat, Nat.reduceLT]
  refine CallC.os h2 [] ?_
  rintro v ρ' ⟨rfl, rfl⟩
  simp only [go_sem, reduceIte, reduceCtorEq, Nat.reduceAdd, Nat.reduceMul, Nat.reduceSub, Nat.reduceDiv, Nat.reduceMod, Nat.reduceLeDiff, Nat.reduceEqDiff, Nat.reduceBEq, Nat.reduceBNe, Int.reduceBEq, Int.reduceBNe, Int.reduceAdd, Int.reduceSub, Int.reduceMul, Int.reduceLE, Int.reduceLT, Int.reduceEq, Int.reduceNeg, Int.reduceToNat, Nat.reduceLT]
  refine RetC.bk [] ⟨rfl, rfl⟩
theorem sp_rrRid (s : St2) (hb : byts s.1) : FSpec Try.prog 35 [.cv (.ptr 0 0 0 0)] [rS s] (fun v ρ' => v = .agg [iC (rdR qNum s).1.1, iC (rdR qNum s).1.2] ∧ ρ' = [rS (rdR qNum s).2]) := by
  have h1 := sp_rrNum 1 (by omega) s hb
  have h2 := sp_rrNum 1 (by omega) (qNum 1 s).2 (byts_qNum hb)
  unfold rdR
  obtain ⟨A, hA⟩ : ∃ A, qNum 1 s = A := ⟨_, rfl⟩
  rw [hA] at h1 h2 ⊢
  obtain ⟨B, hB⟩ : ∃ B, qNum 1 A.2 = B := ⟨_, rfl⟩
  rw [hB] at h2 ⊢
  refine FSpec.of follow Try.func35 c35 (Nat.le_of_ble_eq_true rfl) fun hf => ?_
  simp only [sc35, go_sem, reduceIte, reduceCtorEq, Nat.reduceAdd, Nat.reduceMul, Nat.reduceSub, Nat.reduceDiv, Nat.reduceMod, Nat.reduceLeDiff, Nat.reduceEqDiff, Nat.reduceBEq, Nat.reduceBNe, Int.reduceBEq, Int.reduceBNe, Int.reduceAdd, Int.reduceSub, Int.reduceMul, Int.reduceLE, Int.reduceLT, Int.reduceEq, Int.reduceNeg, Int.reduceToNat, Nat.reduceLT]
  refine CallC.os h1 [0] ?_
  rintro v ρ' ⟨rfl, rfl⟩
  simp only [go_sem, reduceIte, reduceCtorEq, Nat.reduceAdd, Nat.reduceMul, Nat.reduceSub, Nat.reduceDiv, Nat.reduceMod, Nat.reduceLeDiff, Nat.reduceEqDiff, Nat.reduceBEq, Nat.reduceBNe, Int.reduceBEq, Int.reduceBNe, Int.reduceAdd, Int.reduceSub, Int.reduceMul, Int.reduceLE, Int.reduceLT, Int.reduceEq, Int.reduceNeg, Int.reduceToNat, Nat.reduceLT]
  refine CallC.os h2 [0] ?_
  rintro v ρ' ⟨rfl, rfl⟩
  simp only [go_sem, reduceIte, reduceCtorEq, Nat.reduceAdd, Nat.reduceMul, Nat.reduceSub, Nat.reduceDiv, Nat.reduceMod, Nat.reduceLeDiff, Nat.reduceEqDiff, Nat.reduceBEq, Nat.reduceBNe, Int.reduceBEq, Int.reduceBNe, Int.reduceAdd, Int.reduceSub, Int.reduceMul, Int.reduceLE, Int.reduceLT, Int.reduceEq, Int.reduceNeg, Int.reduceToNat, Nat.reduceLT]
  refine RetC.bk [] ⟨rfl, rfl⟩
set_option maxHeartbeats 4000000 in
theorem sp_rrCell (s : St2) (hb : byts s.1) : FSpec Try.prog 36 [.cv (.ptr 0 0 0 0)] [rS s] (fun v ρ' => v = .cv (lbC (qCell s).1) ∧ ρ' = [rS (qCell s).2]) := by
  have h1 := sp_rrNum 1 (by omega) s hb
  have hfit := fit_qNum (n := 1) (by omega) hb
  obtain ⟨k, hk⟩ : ∃ k : Nat, (qNum 1 s).1 = k := ⟨(qNum 1 s).1.toNat, (Int.toNat_of_nonneg hfit.1).symm⟩
  unfold qCell
  dsimp only
  rw [hk] at h1 ⊢
  rw [Int.toNat_natCast]
  obtain ⟨A, hA⟩ : ∃ A, (qNum 1 s).2 = A := ⟨_, rfl⟩
  rw [hA] at h1 ⊢
  clear hk hA hfit
  obtain ⟨L, b⟩ := A
  dsimp only at h1 ⊢
  refine FSpec.of follow Try.func36 c36 (Nat.le_of_ble_eq_true rfl) fun hf => ?_
  simp only [sc36, go_sem, reduceIte, reduceCtorEq, Nat.reduceAdd, Nat.reduceMul, Nat.reduceSub, Nat.reduceDiv, Nat.reduceMod, Nat.reduceLeDiff, Nat.reduceEqDiff, Nat.reduceBEq, Nat.reduceBNe, Int.reduceBEq, Int.reduceBNe, Int.reduceAdd, Int.reduceSub, Int.reduceMul, Int.reduceLE, Int.reduceLT, Int.reduceEq, Int.reduceNeg, Int.reduceToNat, Nat.reduceLT]
  refine CallC.os h1 [0] ?_
  rintro v ρ' ⟨rfl, rfl⟩
  by_cases h0 : k = 0
  · subst h0
    have c0 : ((0 : Nat) : Int) = 0 := rfl
    rw [if_pos (.inl rfl)]
    simp only [c0, bne_self_eq_false, Bool.false_and, Bool.or_false, go_sem, reduceIte, reduceCtorEq, Nat.reduceAdd, Nat.reduceMul, Nat.reduceSub, Nat.reduceDiv, Nat.reduceMod, Nat.reduceLeDiff, Nat.reduceEqDiff, Nat.reduceBEq, Nat.reduceBNe, Int.reduceBEq, Int.reduceBNe, Int.reduceAdd, Int.reduceSub, Int.reduceMul, Int.reduceLE, Int.reduceLT, Int.reduceEq, Int.reduceNeg, Int.reduceToNat, Nat.reduceLT]
    refine RetC.bk [] ⟨rfl, rfl⟩
  have e0 : ((k : Int) != 0) = true := by rw [bne_iff_ne]; omega
  have e0' : ((k : Int) == 0) = false := by simp; omega
  by_cases h26 : k = 26
  · subst h26
    have c26 : ((26 : Nat) : Int) = 26 := rfl
    have hs := sp_rrTake 26 (by omega) (L, b)
    cases b
    · have e : (false || (((26 : Nat) : Int) != 0 && ((26 : Nat) : Int) != 26)) = false := by decide
      rw [e, if_neg (by decide)]
      simp only [c26, go_sem, reduceIte, reduceCtorEq, Nat.reduceAdd, Nat.reduceMul, Nat.reduceSub, Nat.reduceDiv, Nat.reduceMod, Nat.reduceLeDiff, Nat.reduceEqDiff, Nat.reduceBEq, Nat.reduceBNe, Int.reduceBEq, Int.reduceBNe, Int.reduceAdd, Int.reduceSub, Int.reduceMul, Int.reduceLE, Int.reduceLT, Int.reduceEq, Int.reduceNeg, Int.reduceToNat, Nat.reduceLT]
      refine CallC.os hs [0] ?_
      rintro v ρ' ⟨rfl, rfl⟩
      simp only [go_sem, reduceIte, reduceCtorEq, Nat.reduceAdd, Nat.reduceMul, Nat.reduceSub, Nat.reduceDiv, Nat.reduceMod, Nat.reduceLeDiff, Nat.reduceEqDiff, Nat.reduceBEq, Nat.reduceBNe, Int.reduceBEq, Int.reduceBNe, Int.reduceAdd, Int.reduceSub, Int.reduceMul, Int.reduceLE, Int.reduceLT, Int.reduceEq, Int.reduceNeg, Int.reduceToNat, Nat.reduceLT]
      refine RetC.bk [] ⟨rfl, rfl⟩
    · have e : (true || (((26 : Nat) : Int) != 0 && ((26 : Nat) : Int) != 26)) = true := by decide
      rw [e, if_pos (.inr rfl)]
      simp only [c26, go_sem, reduceIte, reduceCtorEq, Nat.reduceAdd, Nat.reduceMul, Nat.reduceSub, Nat.reduceDiv, Nat.reduceMod, Nat.reduceLeDiff, Nat.reduceEqDiff, Nat.reduceBEq, Nat.reduceBNe, Int.reduceBEq, Int.reduceBNe, Int.reduceAdd, Int.reduceSub, Int.reduceMul, Int.reduceLE, Int.reduceLT, Int.reduceEq, Int.reduceNeg, Int.reduceToNat, Nat.reduceLT]
      refine RetC.bk [] ⟨rfl, rfl⟩
  · have e26 : ((k : Int) != 26) = true := by rw [bne_iff_ne]; omega
    simp only [e0, e26, e0', Bool.and_self, Bool.or_true, if_true, or_true, go_sem, reduceIte, reduceCtorEq, Nat.reduceAdd, Nat.reduceMul, Nat.reduceSub, Nat.reduceDiv, Nat.reduceMod, Nat.reduceLeDiff, Nat.reduceEqDiff, Nat.reduceBEq, Nat.reduceBNe, Int.reduceBEq, Int.reduceBNe, Int.reduceAdd, Int.reduceSub, Int.reduceMul, Int.reduceLE, Int.reduceLT, Int.reduceEq, Int.reduceNeg, Int.reduceToNat, Nat.reduceLT]
    refine RetC.bk [] ⟨rfl, rfl⟩
set_option maxHeartbeats 4000000 in
theorem sp_rrMany (s : St2) (hb : byts s.1) : FSpec Try.prog 38 [.cv (.ptr 0 0 0 0)] [rS s] (fun v ρ' => v = iV (qMany s).1 ∧ ρ' = [rS (qMany s).2]) := by
  have h1 := sp_rrNum 1 (by omega) s hb
  unfold qMany
  obtain ⟨A, hA⟩ : ∃ A, qNum 1 s = A := ⟨_, rfl⟩
  rw [hA] at h1 ⊢
  obtain ⟨k, L, b⟩ := A
  dsimp only at h1 ⊢
  refine FSpec.of follow Try.func38 c38 (Nat.le_of_ble_eq_true rfl) fun hf => ?_
  simp only [sc38, go_sem, reduceIte, reduceCtorEq, Nat.reduceAdd, Nat.reduceMul, Nat.reduceSub, Nat.reduceDiv, Nat.reduceMod, Nat.reduceLeDiff, Nat.reduceEqDiff, Nat.reduceBEq, Nat.reduceBNe, Int.reduceBEq, Int.reduceBNe, Int.reduceAdd, Int.reduceSub, Int.reduceMul, Int.reduceLE, Int.reduceLT, Int.reduceEq, Int.reduceNeg, Int.reduceToNat, Nat.reduceLT]
  refine CallC.os h1 [0] ?_
  rintro v ρ' ⟨rfl, rfl⟩
  by_cases h40 : k > 40
  · rw [if_pos (.inl h40)]
    simp only [decide_eq_true h40, go_sem, reduceIte, reduceCtorEq, Nat.reduceAdd, Nat.reduceMul, Nat.reduceSub, Nat.reduceDiv, Nat.reduceMod, Nat.reduceLeDiff, Nat.reduceEqDiff, Nat.reduceBEq, Nat.reduceBNe, Int.reduceBEq, Int.reduceBNe, Int.reduceAdd, Int.reduceSub, Int.reduceMul, Int.reduceLE, Int.reduceLT, Int.reduceEq, Int.reduceNeg, Int.reduceToNat, Nat.reduceLT]
    refine RetC.bk [] ⟨rfl, rfl⟩
  cases b
  · rw [if_neg (fun h => h.elim h40 (by decide))]
    simp only [decide_eq_false h40, go_sem, reduceIte, reduceCtorEq, Nat.reduceAdd, Nat.reduceMul, Nat.reduceSub, Nat.reduceDiv, Nat.reduceMod, Nat.reduceLeDiff, Nat.reduceEqDiff, Nat.reduceBEq, Nat.reduceBNe, Int.reduceBEq, Int.reduceBNe, Int.reduceAdd, Int.reduceSub, Int.reduceMul, Int.reduceLE, Int.reduceLT, Int.reduceEq, Int.reduceNeg, Int.reduceToNat, Nat.reduceLT]
    refine RetC.bk [] ⟨rfl, rfl⟩
  · rw [if_pos (.inr rfl)]
    simp only [decide_eq_false h40, go_sem, reduceIte, reduceCtorEq, Nat.reduceAdd, Nat.reduceMul, Nat.reduceSub, Nat.reduceDiv, Nat.reduceMod, Nat.reduceLeDiff, Nat.reduceEqDiff, Nat.reduceBEq, Nat.reduceBNe, Int.reduceBEq, Int.reduceBNe, Int.reduceAdd, Int.reduceSub, Int.reduceMul, Int.reduceLE, Int.reduceLT, Int.reduceEq, Int.reduceNeg, Int.reduceToNat, Nat.reduceLT]
    refine RetC.bk [] ⟨rfl, rfl⟩
theorem many_nat (s : St2) (hb : byts s.1) : ∃ k : Nat, (qMany s).1 = k ∧ k ≤ 40 := by
  have hfit := fit_qNum (n := 1) (by omega) hb
  unfold qMany
  split
  · exact ⟨0, rfl, by omega⟩
  · rename_i h
    exact ⟨(qNum 1 s).1.toNat, (Int.toNat_of_nonneg hfit.1).symm, by have : ¬ (qNum 1 s).1 > 40 := fun k => h (.inl k); omega⟩
set_option maxHeartbeats 8000000 in
theorem sp_rrMoves (s : St2) (hb : byts s.1) : FSpec Try.prog 37 [.cv (.ptr 0 0 0 0)] [rS s] (fun v ρ' => v = .cv (mvS (qList (rdM qNum) s).1) ∧ ρ' = [rS (qList (rdM qNum) s).2]) := by
  have h1 := sp_rrMany s hb
  have hb1 := byts_qMany hb
  obtain ⟨k, hk, hk1⟩ := many_nat s hb
  unfold qList
  rw [hk] at h1 ⊢
  rw [Int.toNat_natCast]
  obtain ⟨A, hA⟩ : ∃ A, (qMany s).2 = A := ⟨_, rfl⟩
  rw [hA] at h1 hb1 ⊢
  clear hk hA
  obtain ⟨R, hR⟩ : ∃ R, reads (rdM qNum) k A = R := ⟨_, rfl⟩
  rw [hR]
  refine FSpec.of follow Try.func37 c37 (Nat.le_of_ble_eq_true rfl) fun hf => ?_
  simp only [sc37, go_sem, reduceIte, reduceCtorEq, Nat.reduceAdd, Nat.reduceMul, Nat.reduceSub, Nat.reduceDiv, Nat.reduceMod, Nat.reduceLeDiff, Nat.reduceEqDiff, Nat.reduceBEq, Nat.reduceBNe, Int.reduceBEq, Int.reduceBNe, Int.reduceAdd, Int.reduceSub, Int.reduceMul, Int.reduceLE, Int.reduceLT, Int.reduceEq, Int.reduceNeg, Int.reduceToNat, Nat.reduceLT]
  refine CallC.os h1 [0] ?_
  rintro v ρ' ⟨rfl, rfl⟩
  simp only [go_sem, reduceIte, reduceCtorEq, Nat.reduceAdd, Nat.reduceMul, Nat.reduceSub, Nat.reduceDiv, Nat.reduceMod, Nat.reduceLeDiff, Nat.reduceEqDiff, Nat.reduceBEq, Nat.reduceBNe, Int.reduceBEq, Int.reduceBNe, Int.reduceAdd, Int.reduceSub, Int.reduceMul, Int.reduceLE, Int.reduceLT, Int.reduceEq, Int.reduceNeg, Int.reduceToNat, Nat.reduceLT]
  refine LoopC.inv follow (fun y : Nat × List Mv × List Int × Bool => ⟨mkSl 27 [(0, .cv (.ptr 0 0 0 0)), (3, .cv (.slc 1 4 0 y.2.1.length none)), (4, iV y.1)], [(0, rS y.2.2), (1, .recs 4 y.2.1.length (mvC y.2.1))], 2⟩)
    (fun y => (y.2.1 ++ (reads (rdM qNum) y.1 y.2.2).1, (reads (rdM qNum) y.1 y.2.2).2) = R ∧ byts y.2.2.1 ∧ y.2.1.length + y.1 ≤ 40) (fun y => y.1) (k, [], A) ⟨hR, hb1, by simpa using hk1⟩ (Weak.b [0] 1) ?_
  rintro ⟨i, l, L, b⟩ ⟨hI, hbL, hlen⟩
  dsimp only at hI hbL hlen
  simp only [mkSl, go_sem, reduceIte, reduceCtorEq, Nat.reduceAdd, Nat.reduceMul, Nat.reduceSub, Nat.reduceDiv, Nat.reduceMod, Nat.reduceLeDiff, Nat.reduceEqDiff, Nat.reduceBEq, Nat.reduceBNe, Int.reduceBEq, Int.reduceBNe, Int.reduceAdd, Int.reduceSub, Int.reduceMul, Int.reduceLE, Int.reduceLT, Int.reduceEq, Int.reduceNeg, Int.reduceToNat, Nat.reduceLT]
  cases b
  case true =>
    rw [reads_bad _ _ _ rfl, List.append_nil] at hI
    subst hI
    by_cases hi : i = 0
    · have e1 : decide ((i : Int) > 0) = false := decide_eq_false (by omega)
      simp only [e1, go_sem, reduceIte, reduceCtorEq, Nat.reduceAdd, Nat.reduceMul, Nat.reduceSub, Nat.reduceDiv, Nat.reduceMod, Nat.reduceLeDiff, Nat.reduceEqDiff, Nat.reduceBEq, Nat.reduceBNe, Int.reduceBEq, Int.reduceBNe, Int.reduceAdd, Int.reduceSub, Int.reduceMul, Int.reduceLE, Int.reduceLT, Int.reduceEq, Int.reduceNeg, Int.reduceToNat, Nat.reduceLT]
      refine RetC.fz [(1, .frz 4 l.length (mvC l))] [] ⟨rfl, rfl⟩ ⟨⟨rfl, Nat.le_refl _, .inl fun j hj => rfl⟩, trivial⟩ ⟨rfl, rfl, ?_, ?_, trivial, rfl⟩ <;> repeat' (first | exact trivial | exact rfl | exact Or.inl rfl | exact slotW_ren _ | exact cvW_ren _ | exact cvsW_ren _ | exact Nat.le_refl _ | exact slotW_frz rfl (Nat.le_refl _) | exact slotW_nil (Nat.le_of_ble_eq_true rfl) | exact cvW_frz rfl (Nat.le_refl _) | exact cvW_nil (Nat.le_of_ble_eq_true rfl) | exact Or.inl fun _ _ => rfl | exact fun _ _ => rfl | exact Nat.le_of_ble_eq_true rfl | refine ⟨Or.inl ⟨Nat.le_of_ble_eq_true rfl, ?_⟩, ?_⟩ | refine ⟨Or.inr ⟨Nat.le_of_ble_eq_true rfl, Nat.le_of_ble_eq_true rfl, Nat.le_of_ble_eq_true rfl⟩, ?_⟩ | exact Or.inr ⟨rfl, rfl, rfl, rfl, Nat.le_of_ble_eq_true rfl, Nat.le_of_ble_eq_true rfl, Nat.le_of_ble_eq_true rfl⟩ | refine ⟨?_, ?_⟩)
    · have e1 : decide ((i : Int) > 0) = true := decide_eq_true (by omega)
      simp only [e1, go_sem, reduceIte, reduceCtorEq, Nat.reduceAdd, Nat.reduceMul, Nat.reduceSub, Nat.reduceDiv, Nat.reduceMod, Nat.reduceLeDiff, Nat.reduceEqDiff, Nat.reduceBEq, Nat.reduceBNe, Int.reduceBEq, Int.reduceBNe, Int.reduceAdd, Int.reduceSub, Int.reduceMul, Int.reduceLE, Int.reduceLT, Int.reduceEq, Int.reduceNeg, Int.reduceToNat, Nat.reduceLT]
      refine RetC.fz [(1, .frz 4 l.length (mvC l))] [] ⟨rfl, rfl⟩ ⟨⟨rfl, Nat.le_refl _, .inl fun j hj => rfl⟩, trivial⟩ ⟨rfl, rfl, ?_, ?_, trivial, rfl⟩ <;> repeat' (first | exact trivial | exact rfl | exact Or.inl rfl | exact slotW_ren _ | exact cvW_ren _ | exact cvsW_ren _ | exact Nat.le_refl _ | exact slotW_frz rfl (Nat.le_refl _) | exact slotW_nil (Nat.le_of_ble_eq_true rfl) | exact cvW_frz rfl (Nat.le_refl _) | exact cvW_nil (Nat.le_of_ble_eq_true rfl) | exact Or.inl fun _ _ => rfl | exact fun _ _ => rfl | exact Nat.le_of_ble_eq_true rfl | refine ⟨Or.inl ⟨Nat.le_of_ble_eq_true rfl, ?_⟩, ?_⟩ | refine ⟨Or.inr ⟨Nat.le_of_ble_eq_true rfl, Nat.le_of_ble_eq_true rfl, Nat.le_of_ble_eq_true rfl⟩, ?_⟩ | exact Or.inr ⟨rfl, rfl, rfl, rfl, Nat.le_of_ble_eq_true rfl, Nat.le_of_ble_eq_true rfl, Nat.le_of_ble_eq_true rfl⟩ | refine ⟨?_, ?_⟩)
  by_cases hi : i = 0
  · rw [hi, reads_zero, List.append_nil] at hI
    subst hI
    have e1 : decide ((i : Int) > 0) = false := decide_eq_false (by omega)
    simp only [e1, go_sem, reduceIte, reduceCtorEq, Nat.reduceAdd, Nat.reduceMul, Nat.reduceSub, Nat.reduceDiv, Nat.reduceMod, Nat.reduceLeDiff, Nat.reduceEqDiff, Nat.reduceBEq, Nat.reduceBNe, Int.reduceBEq, Int.reduceBNe, Int.reduceAdd, Int.reduceSub, Int.reduceMul, Int.reduceLE, Int.reduceLT, Int.reduceEq, Int.reduceNeg, Int.reduceToNat, Nat.reduceLT]
    refine RetC.fz [(1, .frz 4 l.length (mvC l))] [] ⟨rfl, rfl⟩ ⟨⟨rfl, Nat.le_refl _, .inl fun j hj => rfl⟩, trivial⟩ ⟨rfl, rfl, ?_, ?_, trivial, rfl⟩ <;> repeat' (first | exact trivial | exact rfl | exact Or.inl rfl | exact slotW_ren _ | exact cvW_ren _ | exact cvsW_ren _ | exact Nat.le_refl _ | exact slotW_frz rfl (Nat.le_refl _) | exact slotW_nil (Nat.le_of_ble_eq_true rfl) | exact cvW_frz rfl (Nat.le_refl _) | exact cvW_nil (Nat.le_of_ble_eq_true rfl) | exact Or.inl fun _ _ => rfl | exact fun _ _ => rfl | exact Nat.le_of_ble_eq_true rfl | refine ⟨Or.inl ⟨Nat.le_of_ble_eq_true rfl, ?_⟩, ?_⟩ | refine ⟨Or.inr ⟨Nat.le_of_ble_eq_true rfl, Nat.le_of_ble_eq_true rfl, Nat.le_of_ble_eq_true rfl⟩, ?_⟩ | exact Or.inr ⟨rfl, rfl, rfl, rfl, Nat.le_of_ble_eq_true rfl, Nat.le_of_ble_eq_true rfl, Nat.le_of_ble_eq_true rfl⟩ | refine ⟨?_, ?_⟩)
  · obtain ⟨i, rfl⟩ := Nat.exists_eq_succ_of_ne_zero hi
    rw [reads_step _ _ _ rfl] at hI
    have e1 : decide (((i + 1 : Nat) : Int) > 0) = true := decide_eq_true (by omega)
    have h2 := sp_rrRid (L, false) hbL
    have hb2 := byts_qdR (s := (L, false)) hbL
    have h3 := sp_rrRid (rdR qNum (L, false)).2 hb2
    have hb3 := byts_qdR hb2
    unfold rdM at hI
    obtain ⟨X, hX⟩ : ∃ X, rdR qNum (L, false) = X := ⟨_, rfl⟩
    rw [hX] at hI h2 h3 hb3
    obtain ⟨Y, hY⟩ : ∃ Y, rdR qNum X.2 = Y := ⟨_, rfl⟩
    rw [hY] at hI h3 hb3
    dsimp only at hI h2
    obtain ⟨x, hx⟩ : ∃ x : Mv, (X.1.1, X.1.2, Y.1.1, Y.1.2) = x := ⟨_, rfl⟩
    rw [hx] at hI
    obtain ⟨l', hl', hlen'⟩ : ∃ l', l ++ [x] = l' ∧ l'.length = l.length + 1 := ⟨_, rfl, by simp⟩
    have hI' : (l' ++ (reads (rdM qNum) i Y.2).1, (reads (rdM qNum) i Y.2).2) = R := by rw [← hI, ← hl', List.append_assoc]; rfl
    have hst : ∀ j, j < l'.length → (if j < l.length then mvC l j else List.take 4 (List.drop ((j - l.length) * 4) [iC X.1.1, iC X.1.2, iC Y.1.1, iC Y.1.2])) = mvC l' j := fun j hj => by
      rw [← hl']; have := row_appM l x (show j < l.length + 1 by omega); rw [← hx] at this ⊢; exact this
    have ei : ((i + 1 : Nat) : Int) - 1 = (i : Int) := by omega
    simp only [e1, go_sem, reduceIte, reduceCtorEq, Nat.reduceAdd, Nat.reduceMul, Nat.reduceSub, Nat.reduceDiv, Nat.reduceMod, Nat.reduceLeDiff, Nat.reduceEqDiff, Nat.reduceBEq, Nat.reduceBNe, Int.reduceBEq, Int.reduceBNe, Int.reduceAdd, Int.reduceSub, Int.reduceMul, Int.reduceLE, Int.reduceLT, Int.reduceEq, Int.reduceNeg, Int.reduceToNat, Nat.reduceLT]
    refine CallC.os h2 [0] ?_
    rintro v ρ' ⟨rfl, rfl⟩
    simp only [go_sem, reduceIte, reduceCtorEq, Nat.reduceAdd, Nat.reduceMul, Nat.reduceSub, Nat.reduceDiv, Nat.reduceMod, Nat.reduceLeDiff, Nat.reduceEqDiff, Nat.reduceBEq, Nat.reduceBNe, Int.reduceBEq, Int.reduceBNe, Int.reduceAdd, Int.reduceSub, Int.reduceMul, Int.reduceLE, Int.reduceLT, Int.reduceEq, Int.reduceNeg, Int.reduceToNat, Nat.reduceLT]
    refine CallC.os h3 [0] ?_
    rintro v ρ' ⟨rfl, rfl⟩
    simp only [go_sem, reduceIte, reduceCtorEq, Nat.reduceAdd, Nat.reduceMul, Nat.reduceSub, Nat.reduceDiv, Nat.reduceMod, Nat.reduceLeDiff, Nat.reduceEqDiff, Nat.reduceBEq, Nat.reduceBNe, Int.reduceBEq, Int.reduceBNe, Int.reduceAdd, Int.reduceSub, Int.reduceMul, Int.reduceLE, Int.reduceLT, Int.reduceEq, Int.reduceNeg, Int.reduceToNat, Nat.reduceLT]
    repeat (refine And.intro (by first | omega | (unfold inI64; omega) | (simp only [u8min, u8max, u16min, u16max, u32min, u32max]; omega)) ?_)
    rw [← hlen', ei]
    refine ⟨(i, l', Y.2), ⟨hI', hb3, by dsimp only; omega⟩, by dsimp only; omega, Weak.by [0, 90] 0 ⟨rfl, rfl, rfl, by repeat' (first | exact trivial | exact rfl | exact Or.inl rfl | exact slotW_ren _ | exact cvW_ren _ | exact cvsW_ren _ | exact Nat.le_refl _ | exact slotW_frz rfl (Nat.le_refl _) | exact slotW_nil (Nat.le_of_ble_eq_true rfl) | exact cvW_frz rfl (Nat.le_refl _) | exact cvW_nil (Nat.le_of_ble_eq_true rfl) | exact Or.inl fun _ _ => rfl | exact fun _ _ => rfl | exact Nat.le_of_ble_eq_true rfl | refine ⟨Or.inl ⟨Nat.le_of_ble_eq_true rfl, ?_⟩, ?_⟩ | refine ⟨Or.inr ⟨Nat.le_of_ble_eq_true rfl, Nat.le_of_ble_eq_true rfl, Nat.le_of_ble_eq_true rfl⟩, ?_⟩ | exact Or.inr ⟨rfl, rfl, rfl, rfl, Nat.le_of_ble_eq_true rfl, Nat.le_of_ble_eq_true rfl, Nat.le_of_ble_eq_true rfl⟩ | refine ⟨?_, ?_⟩), ?_⟩⟩
    exact ⟨.inl ⟨Nat.le_of_ble_eq_true rfl, by repeat' (first | exact trivial | exact rfl | exact Or.inl rfl | exact slotW_ren _ | exact cvW_ren _ | exact cvsW_ren _ | exact Nat.le_refl _ | exact slotW_frz rfl (Nat.le_refl _) | exact slotW_nil (Nat.le_of_ble_eq_true rfl) | exact cvW_frz rfl (Nat.le_refl _) | exact cvW_nil (Nat.le_of_ble_eq_true rfl) | exact Or.inl fun _ _ => rfl | exact fun _ _ => rfl | exact Nat.le_of_ble_eq_true rfl | refine ⟨Or.inl ⟨Nat.le_of_ble_eq_true rfl, ?_⟩, ?_⟩ | refine ⟨Or.inr ⟨Nat.le_of_ble_eq_true rfl, Nat.le_of_ble_eq_true rfl, Nat.le_of_ble_eq_true rfl⟩, ?_⟩ | exact Or.inr ⟨rfl, rfl, rfl, rfl, Nat.le_of_ble_eq_true rfl, Nat.le_of_ble_eq_true rfl, Nat.le_of_ble_eq_true rfl⟩ | refine ⟨?_, ?_⟩)⟩, .inl ⟨Nat.le_of_ble_eq_true rfl, rfl, Nat.le_refl _, .inr fun j hj => cvsW_of (hst j hj) ⟨rfl, rfl, rfl, rfl, trivial⟩⟩, trivial⟩
end Go.Proofs.Ytbhefgajgdcajaa

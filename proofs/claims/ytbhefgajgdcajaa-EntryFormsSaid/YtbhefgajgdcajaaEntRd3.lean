/- Reading: lists. -/
import Derived.Test.YtbhefgajgdcajaaSxShort
import Derived.Test.YtbhefgajgdcajaaEntRd2
set_option linter.unusedVariables false
set_option linter.unusedSimpArgs false
namespace Go.Proofs.Ytbhefgajgdcajaa
open Sx
attribute [local go_sem] wpC_skip wpC_reg wpC_draw wpC_seq wpC_block wpC_cond wpC_loop wpC_exit wpC_join joinK_n joinK_e joinK_r wpC_ret seqK_n seqK_e seqK_r blockK_n blockK_e blockK_r Fs_nil Fs_none Fs_some stepS_eq Fc_nil Fc_none Fc_some stepC_eq opFn ev cval lk need SV.nm enumR setS setR setRs cellsOf svOf rget spliceC rset src oint eqCells cvs fillC rows ints svDest keyOf2 ridC widens ibool icalc ibin List.replicate List.getD_cons_zero List.getD_cons_succ List.getD_nil List.set_cons_zero List.set_cons_succ List.map_cons List.map_nil List.foldl_cons List.foldl_nil List.length_cons List.length_nil List.drop_zero List.drop_succ_cons List.drop_nil List.take_succ_cons List.take_zero List.take_nil List.cons_append List.nil_append List.append_nil List.headD_cons List.flatten_cons List.flatten_nil Option.map_some Option.map_none Option.getD_none Option.getD_some true_and and_true Nat.zero_add Nat.add_zero appFn svRoom sameO beq_self_eq_true Nat.zero_mul Nat.mul_zero Nat.sub_zero Nat.zero_le Nat.le_refl and_self okB Bool.not_false Bool.true_or Bool.false_or Bool.not_true List.all_nil List.all_cons Int.toNat_zero Int.toNat_one CondC_true CondC_false beq_true beq_false opEn callEn skipEn slotsOf tmpsOf SOp.operands oo free disj List.contains_cons List.contains_nil Option.toList_some Option.toList_none Bool.and_true Bool.true_and Bool.or_false Bool.or_true Bool.and_self Bool.and_false Bool.false_and decide_true decide_false List.range'_succ List.range'_zero Int.toNat_natCast Int.natCast_nonneg Int.cast_ofNat_Int ne_eq not_false_eq_true updGiven updNew getR muOf nuOf owned isRo List.range.loop List.filter SV.ren CV.ren CV.renL SV.renL Res.ren List.length List.idxOf? List.findIdx? List.findIdx?.go slotsW slotW disB List.range
set_option maxRecDepth 100000

theorem row_appM (l : List Mv) (x : Mv) {j : Nat} (hj : j < l.length + 1) : (if j < l.length then mvC l j else List.take 4 (List.drop ((j - l.length) * 4) [iC x.1, iC x.2.1, iC x.2.2.1, iC x.2.2.2])) = mvC (l ++ [x]) j := by
  by_cases h : j < l.length
  · rw [if_pos h]
    simp only [mvC, List.getD_eq_getElem?_getD, List.getElem?_append_left h]
  · rw [if_neg h, show j - l.length = 0 by omega]
    obtain rfl : j = l.length := by omega
    simp only [mvC, List.getD_eq_getElem?_getD, List.getElem?_append_right (Nat.le_refl _), Nat.sub_self, List.getElem?_cons_zero, Option.getD_some]
    rfl
set_option maxHeartbeats 8000000 in
theorem sp_readsM (s : St2) (hb : byts s.1) : FSpec Try.prog 25 [.cv (.ptr 0 0 0 0), .cv (.fn (.func 26) [.ptr 0 0 0 0] [])] [rS s] (fun v ρ' => v = .cv (mvS (rList (rdM rNum) s).1) ∧ ρ' = [rS (rList (rdM rNum) s).2]) := by
  have h1 := sp_rdNum 1 (by omega) s hb
  have hfit := fit_rNum (n := 1) (by omega) hb
  have hb1 := byts_rNum (n := 1) hb
  obtain ⟨k, hk, hk1⟩ : ∃ k : Nat, (rNum 1 s).1 = k ∧ k ≤ 255 := ⟨(rNum 1 s).1.toNat, (Int.toNat_of_nonneg hfit.1).symm, by have := hfit.2; rw [Int.pow_one] at this; omega⟩
  unfold rList
  rw [hk] at h1 ⊢
  rw [Int.toNat_natCast]
  obtain ⟨A, hA⟩ : ∃ A, (rNum 1 s).2 = A := ⟨_, rfl⟩
  rw [hA] at h1 hb1 ⊢
  clear hk hA hfit
  obtain ⟨R, hR⟩ : ∃ R, reads (rdM rNum) k A = R := ⟨_, rfl⟩
  rw [hR]
  refine FSpec.of follow Try.func25 c25 (Nat.le_of_ble_eq_true rfl) fun hf => ?_
  simp only [sc25, go_sem, reduceIte, reduceCtorEq, Nat.reduceAdd, Nat.reduceMul, Nat.reduceSub, Nat.reduceDiv, Nat.reduceMod, Nat.reduceLeDiff, Nat.reduceEqDiff, Nat.reduceBEq, Nat.reduceBNe, Int.reduceBEq, Int.reduceBNe, Int.reduceAdd, Int.reduceSub, Int.reduceMul, Int.reduceLE, Int.reduceLT, Int.reduceEq, Int.reduceNeg, Int.reduceToNat, Nat.reduceLT]
  refine CallC.os h1 [0] ?_
  rintro v ρ' ⟨rfl, rfl⟩
  simp only [go_sem, reduceIte, reduceCtorEq, Nat.reduceAdd, Nat.reduceMul, Nat.reduceSub, Nat.reduceDiv, Nat.reduceMod, Nat.reduceLeDiff, Nat.reduceEqDiff, Nat.reduceBEq, Nat.reduceBNe, Int.reduceBEq, Int.reduceBNe, Int.reduceAdd, Int.reduceSub, Int.reduceMul, Int.reduceLE, Int.reduceLT, Int.reduceEq, Int.reduceNeg, Int.reduceToNat, Nat.reduceLT]
  refine LoopC.inv follow (fun y : Nat × List Mv × List Int × Bool => ⟨mkSl 26 [(0, .cv (.ptr 0 0 0 0)), (1, .cv (.fn (.func 26) [.ptr 0 0 0 0] [])), (5, .cv (.slc 1 4 0 y.2.1.length none)), (6, iV y.1)], [(0, rS y.2.2), (1, .recs 4 y.2.1.length (mvC y.2.1))], 2⟩)
    (fun y => (y.2.1 ++ (reads (rdM rNum) y.1 y.2.2).1, (reads (rdM rNum) y.1 y.2.2).2) = R ∧ byts y.2.2.1 ∧ y.2.1.length + y.1 ≤ 255) (fun y => y.1) (k, [], A) ⟨hR, hb1, by simpa using hk1⟩ (Weak.b [0] 1) ?_
  rintro ⟨i, l, L, b⟩ ⟨hI, hbL, hlen⟩
  dsimp only at hI hbL hlen
  simp only [mkSl, go_sem, reduceIte, reduceCtorEq, Nat.reduceAdd, Nat.reduceMul, Nat.reduceSub, Nat.reduceDiv, Nat.reduceMod, Nat.reduceLeDiff, Nat.reduceEqDiff, Nat.reduceBEq, Nat.reduceBNe, Int.reduceBEq, Int.reduceBNe, Int.reduceAdd, Int.reduceSub, Int.reduceMul, Int.reduceLE, Int.reduceLT, Int.reduceEq, Int.reduceNeg, Int.reduceToNat, Nat.reduceLT]
  cases b
  case true =>
    rw [reads_bad _ _ _ rfl, List.append_nil] at hI
    subst hI
    by_cases hi : i = 0
    · have e1 : decide ((i : Int) > 0) = false := decide_eq_false (by omega)
      simp only [e1, go_sem, reduceIte, reduceCtorEq, Nat.reduceAdd, Nat.reduceMul, Nat.reduceSub, Nat.reduceDiv, Nat.reduceMod, Nat.reduceLeDiff, Nat.reduceEqDiff, Nat.reduceBEq, Nat.reduceBNe, Int.reduceBEq, Int.reduceBNe, Int.reduceAdd, Int.reduceSub, Int.reduceMul, Int.reduceLE, Int.reduceLT, Int.reduceEq, Int.reduceNeg, Int.reduceToNat, Nat.reduceLT]
      refine RetC.fz [(1, .frz 4 l.length (mvC l))] [] ⟨rfl, rfl⟩ ⟨⟨rfl, Nat.le_refl _, .inl fun j hj => rfl⟩, trivial⟩ ⟨rfl, rfl, ?_, ?_, trivial, rfl⟩ <;> repeat' (first | exact trivial | exact rfl | exact Or.inl rfl | exact slotW_ren _ | exact cvW_ren _ | exact cvsW_ren _ | exact Nat.le_refl _ | exact slotW_frz rfl (Nat.le_refl _) | exact slotW_nil (Nat.le_of_ble_eq_true rfl) | exact cvW_frz rfl (Nat.le_refl _) | exact cvW_nil (Nat.le_of_ble_eq_true rfl) | exact Or.inl fun _ _ => rfl | exact fun _ _ => rfl | exact Nat.le_of_ble_eq_true rfl | refine ⟨Or.inl ⟨Nat.le_of_ble_eq_true rfl, ?_⟩, ?_⟩ | refine ⟨Or.inr ⟨Nat.le_of_ble_eq_true rfl, Nat.le_of_ble_eq_true rfl, Nat.le_of_ble_eq_true rfl⟩, ?_⟩ | exact Or.inr ⟨rfl, rfl, rfl, rfl, Nat.le_of_ble_eq_true rfl, Nat.le_of_ble_eq_true rfl, Nat.le_of_ble_eq_true rfl⟩ | refine ⟨?_, ?_⟩)
    · have e1 : decide ((i : Int) > 0) = true := decide_eq_true (by omega)
      simp only [e1, go_sem, reduceIte, reduceCtorEq, Nat.reduceAdd, Nat.reduceMul, Nat.reduceSub, Nat.reduceDiv, Nat.reduceMod, Nat.reduceLeDiff, Nat.reduceEqDiff, Nat.reduceBEq, Nat.reduceBNe, Int.reduceBEq, Int.reduceBNe, Int.reduceAdd, Int.reduceSub, Int.reduceMul, Int.reduceLE, Int.reduceLT, Int.reduceEq, Int.reduceNeg, Int.reduceToNat, Nat.reduceLT]
      refine RetC.fz [(1, .frz 4 l.length (mvC l))] [] ⟨rfl, rfl⟩ ⟨⟨rfl, Nat.le_refl _, .inl fun j hj => rfl⟩, trivial⟩ ⟨rfl, rfl, ?_, ?_, trivial, rfl⟩ <;> repeat' (first | exact trivial | exact rfl | exact Or.inl rfl | exact slotW_ren _ | exact cvW_ren _ | exact cvsW_ren _ | exact Nat.le_refl _ | exact slotW_frz rfl (Nat.le_refl _) | exact slotW_nil (Nat.le_of_ble_eq_true rfl) | exact cvW_frz rfl (Nat.le_refl _) | exact cvW_nil (Nat.le_of_ble_eq_true rfl) | exact Or.inl fun _ _ => rfl | exact fun _ _ => rfl | exact Nat.le_of_ble_eq_true rfl | refine ⟨Or.inl ⟨Nat.le_of_ble_eq_true rfl, ?_⟩, ?_⟩ | refine ⟨Or.inr ⟨Nat.le_of_ble_eq_true rfl, Nat.le_of_ble_eq_true rfl, Nat.le_of_ble_eq_true rfl⟩, ?_⟩ | exact Or.inr ⟨rfl, rfl, rfl, rfl, Nat.le_of_ble_eq_true rfl, Nat.le_of_ble_eq_true rfl, Nat.le_of_ble_eq_true rfl⟩ | refine ⟨?_, ?_⟩)
  by_cases hi : i = 0
  · rw [hi, reads_zero, List.append_nil] at hI
    subst hI
    have e1 : decide ((i : Int) > 0) = false := decide_eq_false (by omega)
    simp only [e1, go_sem, reduceIte, reduceCtorEq, Nat.reduceAdd, Nat.reduceMul, Nat.reduceSub, Nat.reduceDiv, Nat.reduceMod, Nat.reduceLeDiff, Nat.reduceEqDiff, Nat.reduceBEq, Nat.reduceBNe, Int.reduceBEq, Int.reduceBNe, Int.reduceAdd, Int.reduceSub, Int.reduceMul, Int.reduceLE, Int.reduceLT, Int.reduceEq, Int.reduceNeg, Int.reduceToNat, Nat.reduceLT]
    refine RetC.fz [(1, .frz 4 l.length (mvC l))] [] ⟨rfl, rfl⟩ ⟨⟨rfl, Nat.le_refl _, .inl fun j hj => rfl⟩, trivial⟩ ⟨rfl, rfl, ?_, ?_, trivial, rfl⟩ <;> repeat' (first | exact trivial | exact rfl | exact Or.inl rfl | exact slotW_ren _ | exact cvW_ren _ | exact cvsW_ren _ | exact Nat.le_refl _ | exact slotW_frz rfl (Nat.le_refl _) | exact slotW_nil (Nat.le_of_ble_eq_true rfl) | exact cvW_frz rfl (Nat.le_refl _) | exact cvW_nil (Nat.le_of_ble_eq_true rfl) | exact Or.inl fun _ _ => rfl | exact fun _ _ => rfl | exact Nat.le_of_ble_eq_true rfl | refine ⟨Or.inl ⟨Nat.le_of_ble_eq_true rfl, ?_⟩, ?_⟩ | refine ⟨Or.inr ⟨Nat.le_of_ble_eq_true rfl, Nat.le_of_ble_eq_true rfl, Nat.le_of_ble_eq_true rfl⟩, ?_⟩ | exact Or.inr ⟨rfl, rfl, rfl, rfl, Nat.le_of_ble_eq_true rfl, Nat.le_of_ble_eq_true rfl, Nat.le_of_ble_eq_true rfl⟩ | refine ⟨?_, ?_⟩)
  · obtain ⟨i, rfl⟩ := Nat.exists_eq_succ_of_ne_zero hi
    rw [reads_step _ _ _ rfl] at hI
    have e1 : decide (((i + 1 : Nat) : Int) > 0) = true := decide_eq_true (by omega)
    have h2 := sp_rdMove (L, false) hbL
    have hb2 := byts_rdM (s := (L, false)) hbL
    obtain ⟨X, hX⟩ : ∃ X, (rdM rNum) (L, false) = X := ⟨_, rfl⟩
    rw [hX] at hI h2 hb2
    obtain ⟨x, t⟩ := X
    dsimp only at hI h2 hb2
    obtain ⟨l', hl', hlen'⟩ : ∃ l', l ++ [x] = l' ∧ l'.length = l.length + 1 := ⟨_, rfl, by simp⟩
    have hI' : (l' ++ (reads (rdM rNum) i t).1, (reads (rdM rNum) i t).2) = R := by rw [← hI, ← hl', List.append_assoc]; rfl
    have hst : ∀ j, j < l'.length → (if j < l.length then mvC l j else List.take 4 (List.drop ((j - l.length) * 4) [iC x.1, iC x.2.1, iC x.2.2.1, iC x.2.2.2])) = mvC l' j := fun j hj => by
      rw [← hl']; exact row_appM l x (by omega)
    have ei : ((i + 1 : Nat) : Int) - 1 = (i : Int) := by omega
    simp only [e1, go_sem, reduceIte, reduceCtorEq, Nat.reduceAdd, Nat.reduceMul, Nat.reduceSub, Nat.reduceDiv, Nat.reduceMod, Nat.reduceLeDiff, Nat.reduceEqDiff, Nat.reduceBEq, Nat.reduceBNe, Int.reduceBEq, Int.reduceBNe, Int.reduceAdd, Int.reduceSub, Int.reduceMul, Int.reduceLE, Int.reduceLT, Int.reduceEq, Int.reduceNeg, Int.reduceToNat, Nat.reduceLT]
    refine CallC.os h2 [0] ?_
    rintro v ρ' ⟨rfl, rfl⟩
    simp only [go_sem, reduceIte, reduceCtorEq, Nat.reduceAdd, Nat.reduceMul, Nat.reduceSub, Nat.reduceDiv, Nat.reduceMod, Nat.reduceLeDiff, Nat.reduceEqDiff, Nat.reduceBEq, Nat.reduceBNe, Int.reduceBEq, Int.reduceBNe, Int.reduceAdd, Int.reduceSub, Int.reduceMul, Int.reduceLE, Int.reduceLT, Int.reduceEq, Int.reduceNeg, Int.reduceToNat, Nat.reduceLT]
    repeat (refine And.intro (by first | omega | (unfold inI64; omega) | (simp only [u8min, u8max, u16min, u16max, u32min, u32max]; omega)) ?_)
    rw [← hlen', ei]
    refine ⟨(i, l', t), ⟨hI', hb2, by dsimp only; omega⟩, by dsimp only; omega, Weak.by [0, 87] 0 ⟨rfl, rfl, rfl, by repeat' (first | exact trivial | exact rfl | exact Or.inl rfl | exact slotW_ren _ | exact cvW_ren _ | exact cvsW_ren _ | exact Nat.le_refl _ | exact slotW_frz rfl (Nat.le_refl _) | exact slotW_nil (Nat.le_of_ble_eq_true rfl) | exact cvW_frz rfl (Nat.le_refl _) | exact cvW_nil (Nat.le_of_ble_eq_true rfl) | exact Or.inl fun _ _ => rfl | exact fun _ _ => rfl | exact Nat.le_of_ble_eq_true rfl | refine ⟨Or.inl ⟨Nat.le_of_ble_eq_true rfl, ?_⟩, ?_⟩ | refine ⟨Or.inr ⟨Nat.le_of_ble_eq_true rfl, Nat.le_of_ble_eq_true rfl, Nat.le_of_ble_eq_true rfl⟩, ?_⟩ | exact Or.inr ⟨rfl, rfl, rfl, rfl, Nat.le_of_ble_eq_true rfl, Nat.le_of_ble_eq_true rfl, Nat.le_of_ble_eq_true rfl⟩ | refine ⟨?_, ?_⟩), ?_⟩⟩
    exact ⟨.inl ⟨Nat.le_of_ble_eq_true rfl, by repeat' (first | exact trivial | exact rfl | exact Or.inl rfl | exact slotW_ren _ | exact cvW_ren _ | exact cvsW_ren _ | exact Nat.le_refl _ | exact slotW_frz rfl (Nat.le_refl _) | exact slotW_nil (Nat.le_of_ble_eq_true rfl) | exact cvW_frz rfl (Nat.le_refl _) | exact cvW_nil (Nat.le_of_ble_eq_true rfl) | exact Or.inl fun _ _ => rfl | exact fun _ _ => rfl | exact Nat.le_of_ble_eq_true rfl | refine ⟨Or.inl ⟨Nat.le_of_ble_eq_true rfl, ?_⟩, ?_⟩ | refine ⟨Or.inr ⟨Nat.le_of_ble_eq_true rfl, Nat.le_of_ble_eq_true rfl, Nat.le_of_ble_eq_true rfl⟩, ?_⟩ | exact Or.inr ⟨rfl, rfl, rfl, rfl, Nat.le_of_ble_eq_true rfl, Nat.le_of_ble_eq_true rfl, Nat.le_of_ble_eq_true rfl⟩ | refine ⟨?_, ?_⟩)⟩, .inl ⟨Nat.le_of_ble_eq_true rfl, rfl, Nat.le_refl _, .inr fun j hj => cvsW_of (hst j hj) ⟨rfl, rfl, rfl, rfl, trivial⟩⟩, trivial⟩

theorem row_appL (l : List Lv) (x : Lv) {j : Nat} (hj : j < l.length + 1) : (if j < l.length then lvC l j else List.take 4 (List.drop ((j - l.length) * 4) [iC x.1, iC x.2.1, iC x.2.2.1, bC x.2.2.2])) = lvC (l ++ [x]) j := by
  by_cases h : j < l.length
  · rw [if_pos h]
    simp only [lvC, List.getD_eq_getElem?_getD, List.getElem?_append_left h]
  · rw [if_neg h, show j - l.length = 0 by omega]
    obtain rfl : j = l.length := by omega
    simp only [lvC, List.getD_eq_getElem?_getD, List.getElem?_append_right (Nat.le_refl _), Nat.sub_self, List.getElem?_cons_zero, Option.getD_some]
    rfl
set_option maxHeartbeats 8000000 in
theorem sp_readsL (s : St2) (hb : byts s.1) : FSpec Try.prog 27 [.cv (.ptr 0 0 0 0), .cv (.fn (.func 28) [.ptr 0 0 0 0] [])] [rS s] (fun v ρ' => v = .cv (lvS (rList rdL s).1) ∧ ρ' = [rS (rList rdL s).2]) := by
  have h1 := sp_rdNum 1 (by omega) s hb
  have hfit := fit_rNum (n := 1) (by omega) hb
  have hb1 := byts_rNum (n := 1) hb
  obtain ⟨k, hk, hk1⟩ : ∃ k : Nat, (rNum 1 s).1 = k ∧ k ≤ 255 := ⟨(rNum 1 s).1.toNat, (Int.toNat_of_nonneg hfit.1).symm, by have := hfit.2; rw [Int.pow_one] at this; omega⟩
  unfold rList
  rw [hk] at h1 ⊢
  rw [Int.toNat_natCast]
  obtain ⟨A, hA⟩ : ∃ A, (rNum 1 s).2 = A := ⟨_, rfl⟩
  rw [hA] at h1 hb1 ⊢
  clear hk hA hfit
  obtain ⟨R, hR⟩ : ∃ R, reads rdL k A = R := ⟨_, rfl⟩
  rw [hR]
  refine FSpec.of follow Try.func27 c27 (Nat.le_of_ble_eq_true rfl) fun hf => ?_
  simp only [sc27, go_sem, reduceIte, reduceCtorEq, Nat.reduceAdd, Nat.reduceMul, Nat.reduceSub, Nat.reduceDiv, Nat.reduceMod, Nat.reduceLeDiff, Nat.reduceEqDiff, Nat.reduceBEq, Nat.reduceBNe, Int.reduceBEq, Int.reduceBNe, Int.reduceAdd, Int.reduceSub, Int.reduceMul, Int.reduceLE, Int.reduceLT, Int.reduceEq, Int.reduceNeg, Int.reduceToNat, Nat.reduceLT]
  refine CallC.os h1 [0] ?_
  rintro v ρ' ⟨rfl, rfl⟩
  simp only [go_sem, reduceIte, reduceCtorEq, Nat.reduceAdd, Nat.reduceMul, Nat.reduceSub, Nat.reduceDiv, Nat.reduceMod, Nat.reduceLeDiff, Nat.reduceEqDiff, Nat.reduceBEq, Nat.reduceBNe, Int.reduceBEq, Int.reduceBNe, Int.reduceAdd, Int.reduceSub, Int.reduceMul, Int.reduceLE, Int.reduceLT, Int.reduceEq, Int.reduceNeg, Int.reduceToNat, Nat.reduceLT]
  refine LoopC.inv follow (fun y : Nat × List Lv × List Int × Bool => ⟨mkSl 26 [(0, .cv (.ptr 0 0 0 0)), (1, .cv (.fn (.func 28) [.ptr 0 0 0 0] [])), (5, .cv (.slc 1 4 0 y.2.1.length none)), (6, iV y.1)], [(0, rS y.2.2), (1, .recs 4 y.2.1.length (lvC y.2.1))], 2⟩)
    (fun y => (y.2.1 ++ (reads rdL y.1 y.2.2).1, (reads rdL y.1 y.2.2).2) = R ∧ byts y.2.2.1 ∧ y.2.1.length + y.1 ≤ 255) (fun y => y.1) (k, [], A) ⟨hR, hb1, by simpa using hk1⟩ (Weak.b [0] 1) ?_
  rintro ⟨i, l, L, b⟩ ⟨hI, hbL, hlen⟩
  dsimp only at hI hbL hlen
  simp only [mkSl, go_sem, reduceIte, reduceCtorEq, Nat.reduceAdd, Nat.reduceMul, Nat.reduceSub, Nat.reduceDiv, Nat.reduceMod, Nat.reduceLeDiff, Nat.reduceEqDiff, Nat.reduceBEq, Nat.reduceBNe, Int.reduceBEq, Int.reduceBNe, Int.reduceAdd, Int.reduceSub, Int.reduceMul, Int.reduceLE, Int.reduceLT, Int.reduceEq, Int.reduceNeg, Int.reduceToNat, Nat.reduceLT]
  cases b
  case true =>
    rw [reads_bad _ _ _ rfl, List.append_nil] at hI
    subst hI
    by_cases hi : i = 0
    · have e1 : decide ((i : Int) > 0) = false := decide_eq_false (by omega)
      simp only [e1, go_sem, reduceIte, reduceCtorEq, Nat.reduceAdd, Nat.reduceMul, Nat.reduceSub, Nat.reduceDiv, Nat.reduceMod, Nat.reduceLeDiff, Nat.reduceEqDiff, Nat.reduceBEq, Nat.reduceBNe, Int.reduceBEq, Int.reduceBNe, Int.reduceAdd, Int.reduceSub, Int.reduceMul, Int.reduceLE, Int.reduceLT, Int.reduceEq, Int.reduceNeg, Int.reduceToNat, Nat.reduceLT]
      refine RetC.fz [(1, .frz 4 l.length (lvC l))] [] ⟨rfl, rfl⟩ ⟨⟨rfl, Nat.le_refl _, .inl fun j hj => rfl⟩, trivial⟩ ⟨rfl, rfl, ?_, ?_, trivial, rfl⟩ <;> repeat' (first | exact trivial | exact rfl | exact Or.inl rfl | exact slotW_ren _ | exact cvW_ren _ | exact cvsW_ren _ | exact Nat.le_refl _ | exact slotW_frz rfl (Nat.le_refl _) | exact slotW_nil (Nat.le_of_ble_eq_true rfl) | exact cvW_frz rfl (Nat.le_refl _) | exact cvW_nil (Nat.le_of_ble_eq_true rfl) | exact Or.inl fun _ _ => rfl | exact fun _ _ => rfl | exact Nat.le_of_ble_eq_true rfl | refine ⟨Or.inl ⟨Nat.le_of_ble_eq_true rfl, ?_⟩, ?_⟩ | refine ⟨Or.inr ⟨Nat.le_of_ble_eq_true rfl, Nat.le_of_ble_eq_true rfl, Nat.le_of_ble_eq_true rfl⟩, ?_⟩ | exact Or.inr ⟨rfl, rfl, rfl, rfl, Nat.le_of_ble_eq_true rfl, Nat.le_of_ble_eq_true rfl, Nat.le_of_ble_eq_true rfl⟩ | refine ⟨?_, ?_⟩)
    · have e1 : decide ((i : Int) > 0) = true := decide_eq_true (by omega)
      simp only [e1, go_sem, reduceIte, reduceCtorEq, Nat.reduceAdd, Nat.reduceMul, Nat.reduceSub, Nat.reduceDiv, Nat.reduceMod, Nat.reduceLeDiff, Nat.reduceEqDiff, Nat.reduceBEq, Nat.reduceBNe, Int.reduceBEq, Int.reduceBNe, Int.reduceAdd, Int.reduceSub, Int.reduceMul, Int.reduceLE, Int.reduceLT, Int.reduceEq, Int.reduceNeg, Int.reduceToNat, Nat.reduceLT]
      refine RetC.fz [(1, .frz 4 l.length (lvC l))] [] ⟨rfl, rfl⟩ ⟨⟨rfl, Nat.le_refl _, .inl fun j hj => rfl⟩, trivial⟩ ⟨rfl, rfl, ?_, ?_, trivial, rfl⟩ <;> repeat' (first | exact trivial | exact rfl | exact Or.inl rfl | exact slotW_ren _ | exact cvW_ren _ | exact cvsW_ren _ | exact Nat.le_refl _ | exact slotW_frz rfl (Nat.le_refl _) | exact slotW_nil (Nat.le_of_ble_eq_true rfl) | exact cvW_frz rfl (Nat.le_refl _) | exact cvW_nil (Nat.le_of_ble_eq_true rfl) | exact Or.inl fun _ _ => rfl | exact fun _ _ => rfl | exact Nat.le_of_ble_eq_true rfl | refine ⟨Or.inl ⟨Nat.le_of_ble_eq_true rfl, ?_⟩, ?_⟩ | refine ⟨Or.inr ⟨Nat.le_of_ble_eq_true rfl, Nat.le_of_ble_eq_true rfl, Nat.le_of_ble_eq_true rfl⟩, ?_⟩ | exact Or.inr ⟨rfl, rfl, rfl, rfl, Nat.le_of_ble_eq_true rfl, Nat.le_of_ble_eq_true rfl, Nat.le_of_ble_eq_true rfl⟩ | refine ⟨?_, ?_⟩)
  by_cases hi : i = 0
  · rw [hi, reads_zero, List.append_nil] at hI
    subst hI
    have e1 : decide ((i : Int) > 0) = false := decide_eq_false (by omega)
    simp only [e1, go_sem, reduceIte, reduceCtorEq, Nat.reduceAdd, Nat.reduceMul, Nat.reduceSub, Nat.reduceDiv, Nat.reduceMod, Nat.reduceLeDiff, Nat.reduceEqDiff, Nat.reduceBEq, Nat.reduceBNe, Int.reduceBEq, Int.reduceBNe, Int.reduceAdd, Int.reduceSub, Int.reduceMul, Int.reduceLE, Int.reduceLT, Int.reduceEq, Int.reduceNeg, Int.reduceToNat, Nat.reduceLT]
    refine RetC.fz [(1, .frz 4 l.length (lvC l))] [] ⟨rfl, rfl⟩ ⟨⟨rfl, Nat.le_refl _, .inl fun j hj => rfl⟩, trivial⟩ ⟨rfl, rfl, ?_, ?_, trivial, rfl⟩ <;> repeat' (first | exact trivial | exact rfl | exact Or.inl rfl | exact slotW_ren _ | exact cvW_ren _ | exact cvsW_ren _ | exact Nat.le_refl _ | exact slotW_frz rfl (Nat.le_refl _) | exact slotW_nil (Nat.le_of_ble_eq_true rfl) | exact cvW_frz rfl (Nat.le_refl _) | exact cvW_nil (Nat.le_of_ble_eq_true rfl) | exact Or.inl fun _ _ => rfl | exact fun _ _ => rfl | exact Nat.le_of_ble_eq_true rfl | refine ⟨Or.inl ⟨Nat.le_of_ble_eq_true rfl, ?_⟩, ?_⟩ | refine ⟨Or.inr ⟨Nat.le_of_ble_eq_true rfl, Nat.le_of_ble_eq_true rfl, Nat.le_of_ble_eq_true rfl⟩, ?_⟩ | exact Or.inr ⟨rfl, rfl, rfl, rfl, Nat.le_of_ble_eq_true rfl, Nat.le_of_ble_eq_true rfl, Nat.le_of_ble_eq_true rfl⟩ | refine ⟨?_, ?_⟩)
  · obtain ⟨i, rfl⟩ := Nat.exists_eq_succ_of_ne_zero hi
    rw [reads_step _ _ _ rfl] at hI
    have e1 : decide (((i + 1 : Nat) : Int) > 0) = true := decide_eq_true (by omega)
    have h2 := sp_rdLive (L, false) hbL
    have hb2 := byts_rdL (s := (L, false)) hbL
    obtain ⟨X, hX⟩ : ∃ X, rdL (L, false) = X := ⟨_, rfl⟩
    rw [hX] at hI h2 hb2
    obtain ⟨x, t⟩ := X
    dsimp only at hI h2 hb2
    obtain ⟨l', hl', hlen'⟩ : ∃ l', l ++ [x] = l' ∧ l'.length = l.length + 1 := ⟨_, rfl, by simp⟩
    have hI' : (l' ++ (reads rdL i t).1, (reads rdL i t).2) = R := by rw [← hI, ← hl', List.append_assoc]; rfl
    have hst : ∀ j, j < l'.length → (if j < l.length then lvC l j else List.take 4 (List.drop ((j - l.length) * 4) [iC x.1, iC x.2.1, iC x.2.2.1, bC x.2.2.2])) = lvC l' j := fun j hj => by
      rw [← hl']; exact row_appL l x (by omega)
    have ei : ((i + 1 : Nat) : Int) - 1 = (i : Int) := by omega
    simp only [e1, go_sem, reduceIte, reduceCtorEq, Nat.reduceAdd, Nat.reduceMul, Nat.reduceSub, Nat.reduceDiv, Nat.reduceMod, Nat.reduceLeDiff, Nat.reduceEqDiff, Nat.reduceBEq, Nat.reduceBNe, Int.reduceBEq, Int.reduceBNe, Int.reduceAdd, Int.reduceSub, Int.reduceMul, Int.reduceLE, Int.reduceLT, Int.reduceEq, Int.reduceNeg, Int.reduceToNat, Nat.reduceLT]
    refine CallC.os h2 [0] ?_
    rintro v ρ' ⟨rfl, rfl⟩
    simp only [go_sem, reduceIte, reduceCtorEq, Nat.reduceAdd, Nat.reduceMul, Nat.reduceSub, Nat.reduceDiv, Nat.reduceMod, Nat.reduceLeDiff, Nat.reduceEqDiff, Nat.reduceBEq, Nat.reduceBNe, Int.reduceBEq, Int.reduceBNe, Int.reduceAdd, Int.reduceSub, Int.reduceMul, Int.reduceLE, Int.reduceLT, Int.reduceEq, Int.reduceNeg, Int.reduceToNat, Nat.reduceLT]
    repeat (refine And.intro (by first | omega | (unfold inI64; omega) | (simp only [u8min, u8max, u16min, u16max, u32min, u32max]; omega)) ?_)
    rw [← hlen', ei]
    refine ⟨(i, l', t), ⟨hI', hb2, by dsimp only; omega⟩, by dsimp only; omega, Weak.by [0, 87] 0 ⟨rfl, rfl, rfl, by repeat' (first | exact trivial | exact rfl | exact Or.inl rfl | exact slotW_ren _ | exact cvW_ren _ | exact cvsW_ren _ | exact Nat.le_refl _ | exact slotW_frz rfl (Nat.le_refl _) | exact slotW_nil (Nat.le_of_ble_eq_true rfl) | exact cvW_frz rfl (Nat.le_refl _) | exact cvW_nil (Nat.le_of_ble_eq_true rfl) | exact Or.inl fun _ _ => rfl | exact fun _ _ => rfl | exact Nat.le_of_ble_eq_true rfl | refine ⟨Or.inl ⟨Nat.le_of_ble_eq_true rfl, ?_⟩, ?_⟩ | refine ⟨Or.inr ⟨Nat.le_of_ble_eq_true rfl, Nat.le_of_ble_eq_true rfl, Nat.le_of_ble_eq_true rfl⟩, ?_⟩ | exact Or.inr ⟨rfl, rfl, rfl, rfl, Nat.le_of_ble_eq_true rfl, Nat.le_of_ble_eq_true rfl, Nat.le_of_ble_eq_true rfl⟩ | refine ⟨?_, ?_⟩), ?_⟩⟩
    exact ⟨.inl ⟨Nat.le_of_ble_eq_true rfl, by repeat' (first | exact trivial | exact rfl | exact Or.inl rfl | exact slotW_ren _ | exact cvW_ren _ | exact cvsW_ren _ | exact Nat.le_refl _ | exact slotW_frz rfl (Nat.le_refl _) | exact slotW_nil (Nat.le_of_ble_eq_true rfl) | exact cvW_frz rfl (Nat.le_refl _) | exact cvW_nil (Nat.le_of_ble_eq_true rfl) | exact Or.inl fun _ _ => rfl | exact fun _ _ => rfl | exact Nat.le_of_ble_eq_true rfl | refine ⟨Or.inl ⟨Nat.le_of_ble_eq_true rfl, ?_⟩, ?_⟩ | refine ⟨Or.inr ⟨Nat.le_of_ble_eq_true rfl, Nat.le_of_ble_eq_true rfl, Nat.le_of_ble_eq_true rfl⟩, ?_⟩ | exact Or.inr ⟨rfl, rfl, rfl, rfl, Nat.le_of_ble_eq_true rfl, Nat.le_of_ble_eq_true rfl, Nat.le_of_ble_eq_true rfl⟩ | refine ⟨?_, ?_⟩)⟩, .inl ⟨Nat.le_of_ble_eq_true rfl, rfl, Nat.le_refl _, .inr fun j hj => cvsW_of (hst j hj) ⟨rfl, rfl, rfl, rfl, trivial⟩⟩, trivial⟩

theorem row_appD (l : List Dt) (x : Dt) {j : Nat} (hj : j < l.length + 1) : (if j < l.length then dtC l j else List.take 2 (List.drop ((j - l.length) * 2) [iC x.1, iC x.2])) = dtC (l ++ [x]) j := by
  by_cases h : j < l.length
  · rw [if_pos h]
    simp only [dtC, List.getD_eq_getElem?_getD, List.getElem?_append_left h]
  · rw [if_neg h, show j - l.length = 0 by omega]
    obtain rfl : j = l.length := by omega
    simp only [dtC, List.getD_eq_getElem?_getD, List.getElem?_append_right (Nat.le_refl _), Nat.sub_self, List.getElem?_cons_zero, Option.getD_some]
    rfl
set_option maxHeartbeats 8000000 in
theorem sp_readsD (s : St2) (hb : byts s.1) : FSpec Try.prog 29 [.cv (.ptr 0 0 0 0), .cv (.fn (.func 30) [.ptr 0 0 0 0] [])] [rS s] (fun v ρ' => v = .cv (dtS (rList (rdD rNum) s).1) ∧ ρ' = [rS (rList (rdD rNum) s).2]) := by
  have h1 := sp_rdNum 1 (by omega) s hb
  have hfit := fit_rNum (n := 1) (by omega) hb
  have hb1 := byts_rNum (n := 1) hb
  obtain ⟨k, hk, hk1⟩ : ∃ k : Nat, (rNum 1 s).1 = k ∧ k ≤ 255 := ⟨(rNum 1 s).1.toNat, (Int.toNat_of_nonneg hfit.1).symm, by have := hfit.2; rw [Int.pow_one] at this; omega⟩
  unfold rList
  rw [hk] at h1 ⊢
  rw [Int.toNat_natCast]
  obtain ⟨A, hA⟩ : ∃ A, (rNum 1 s).2 = A := ⟨_, rfl⟩
  rw [hA] at h1 hb1 ⊢
  clear hk hA hfit
  obtain ⟨R, hR⟩ : ∃ R, reads (rdD rNum) k A = R := ⟨_, rfl⟩
  rw [hR]
  refine FSpec.of follow Try.func29 c29 (Nat.le_of_ble_eq_true rfl) fun hf => ?_
  simp only [sc29, go_sem, reduceIte, reduceCtorEq, Nat.reduceAdd, Nat.reduceMul, Nat.reduceSub, Nat.reduceDiv, Nat.reduceMod, Nat.reduceLeDiff, Nat.reduceEqDiff, Nat.reduceBEq, Nat.reduceBNe, Int.reduceBEq, Int.reduceBNe, Int.reduceAdd, Int.reduceSub, Int.reduceMul, Int.reduceLE, Int.reduceLT, Int.reduceEq, Int.reduceNeg, Int.reduceToNat, Nat.reduceLT]
  refine CallC.os h1 [0] ?_
  rintro v ρ' ⟨rfl, rfl⟩
  simp only [go_sem, reduceIte, reduceCtorEq, Nat.reduceAdd, Nat.reduceMul, Nat.reduceSub, Nat.reduceDiv, Nat.reduceMod, Nat.reduceLeDiff, Nat.reduceEqDiff, Nat.reduceBEq, Nat.reduceBNe, Int.reduceBEq, Int.reduceBNe, Int.reduceAdd, Int.reduceSub, Int.reduceMul, Int.reduceLE, Int.reduceLT, Int.reduceEq, Int.reduceNeg, Int.reduceToNat, Nat.reduceLT]
  refine LoopC.inv follow (fun y : Nat × List Dt × List Int × Bool => ⟨mkSl 26 [(0, .cv (.ptr 0 0 0 0)), (1, .cv (.fn (.func 30) [.ptr 0 0 0 0] [])), (5, .cv (.slc 1 2 0 y.2.1.length none)), (6, iV y.1)], [(0, rS y.2.2), (1, .recs 2 y.2.1.length (dtC y.2.1))], 2⟩)
    (fun y => (y.2.1 ++ (reads (rdD rNum) y.1 y.2.2).1, (reads (rdD rNum) y.1 y.2.2).2) = R ∧ byts y.2.2.1 ∧ y.2.1.length + y.1 ≤ 255) (fun y => y.1) (k, [], A) ⟨hR, hb1, by simpa using hk1⟩ (Weak.b [0] 1) ?_
  rintro ⟨i, l, L, b⟩ ⟨hI, hbL, hlen⟩
  dsimp only at hI hbL hlen
  simp only [mkSl, go_sem, reduceIte, reduceCtorEq, Nat.reduceAdd, Nat.reduceMul, Nat.reduceSub, Nat.reduceDiv, Nat.reduceMod, Nat.reduceLeDiff, Nat.reduceEqDiff, Nat.reduceBEq, Nat.reduceBNe, Int.reduceBEq, Int.reduceBNe, Int.reduceAdd, Int.reduceSub, Int.reduceMul, Int.reduceLE, Int.reduceLT, Int.reduceEq, Int.reduceNeg, Int.reduceToNat, Nat.reduceLT]
  cases b
  case true =>
    rw [reads_bad _ _ _ rfl, List.append_nil] at hI
    subst hI
    by_cases hi : i = 0
    · have e1 : decide ((i : Int) > 0) = false := decide_eq_false (by omega)
      simp only [e1, go_sem, reduceIte, reduceCtorEq, Nat.reduceAdd, Nat.reduceMul, Nat.reduceSub, Nat.reduceDiv, Nat.reduceMod, Nat.reduceLeDiff, Nat.reduceEqDiff, Nat.reduceBEq, Nat.reduceBNe, Int.reduceBEq, Int.reduceBNe, Int.reduceAdd, Int.reduceSub, Int.reduceMul, Int.reduceLE, Int.reduceLT, Int.reduceEq, Int.reduceNeg, Int.reduceToNat, Nat.reduceLT]
      refine RetC.fz [(1, .frz 2 l.length (dtC l))] [] ⟨rfl, rfl⟩ ⟨⟨rfl, Nat.le_refl _, .inl fun j hj => rfl⟩, trivial⟩ ⟨rfl, rfl, ?_, ?_, trivial, rfl⟩ <;> repeat' (first | exact trivial | exact rfl | exact Or.inl rfl | exact slotW_ren _ | exact cvW_ren _ | exact cvsW_ren _ | exact Nat.le_refl _ | exact slotW_frz rfl (Nat.le_refl _) | exact slotW_nil (Nat.le_of_ble_eq_true rfl) | exact cvW_frz rfl (Nat.le_refl _) | exact cvW_nil (Nat.le_of_ble_eq_true rfl) | exact Or.inl fun _ _ => rfl | exact fun _ _ => rfl | exact Nat.le_of_ble_eq_true rfl | refine ⟨Or.inl ⟨Nat.le_of_ble_eq_true rfl, ?_⟩, ?_⟩ | refine ⟨Or.inr ⟨Nat.le_of_ble_eq_true rfl, Nat.le_of_ble_eq_true rfl, Nat.le_of_ble_eq_true rfl⟩, ?_⟩ | exact Or.inr ⟨rfl, rfl, rfl, rfl, Nat.le_of_ble_eq_true rfl, Nat.le_of_ble_eq_true rfl, Nat.le_of_ble_eq_true rfl⟩ | refine ⟨?_, ?_⟩)
    · have e1 : decide ((i : Int) > 0) = true := decide_eq_true (by omega)
      simp only [e1, go_sem, reduceIte, reduceCtorEq, Nat.reduceAdd, Nat.reduceMul, Nat.reduceSub, Nat.reduceDiv, Nat.reduceMod, Nat.reduceLeDiff, Nat.reduceEqDiff, Nat.reduceBEq, Nat.reduceBNe, Int.reduceBEq, Int.reduceBNe, Int.reduceAdd, Int.reduceSub, Int.reduceMul, Int.reduceLE, Int.reduceLT, Int.reduceEq, Int.reduceNeg, Int.reduceToNat, Nat.reduceLT]
      refine RetC.fz [(1, .frz 2 l.length (dtC l))] [] ⟨rfl, rfl⟩ ⟨⟨rfl, Nat.le_refl _, .inl fun j hj => rfl⟩, trivial⟩ ⟨rfl, rfl, ?_, ?_, trivial, rfl⟩ <;> repeat' (first | exact trivial | exact rfl | exact Or.inl rfl | exact slotW_ren _ | exact cvW_ren _ | exact cvsW_ren _ | exact Nat.le_refl _ | exact slotW_frz rfl (Nat.le_refl _) | exact slotW_nil (Nat.le_of_ble_eq_true rfl) | exact cvW_frz rfl (Nat.le_refl _) | exact cvW_nil (Nat.le_of_ble_eq_true rfl) | exact Or.inl fun _ _ => rfl | exact fun _ _ => rfl | exact Nat.le_of_ble_eq_true rfl | refine ⟨Or.inl ⟨Nat.le_of_ble_eq_true rfl, ?_⟩, ?_⟩ | refine ⟨Or.inr ⟨Nat.le_of_ble_eq_true rfl, Nat.le_of_ble_eq_true rfl, Nat.le_of_ble_eq_true rfl⟩, ?_⟩ | exact Or.inr ⟨rfl, rfl, rfl, rfl, Nat.le_of_ble_eq_true rfl, Nat.le_of_ble_eq_true rfl, Nat.le_of_ble_eq_true rfl⟩ | refine ⟨?_, ?_⟩)
  by_cases hi : i = 0
  · rw [hi, reads_zero, List.append_nil] at hI
    subst hI
    have e1 : decide ((i : Int) > 0) = false := decide_eq_false (by omega)
    simp only [e1, go_sem, reduceIte, reduceCtorEq, Nat.reduceAdd, Nat.reduceMul, Nat.reduceSub, Nat.reduceDiv, Nat.reduceMod, Nat.reduceLeDiff, Nat.reduceEqDiff, Nat.reduceBEq, Nat.reduceBNe, Int.reduceBEq, Int.reduceBNe, Int.reduceAdd, Int.reduceSub, Int.reduceMul, Int.reduceLE, Int.reduceLT, Int.reduceEq, Int.reduceNeg, Int.reduceToNat, Nat.reduceLT]
    refine RetC.fz [(1, .frz 2 l.length (dtC l))] [] ⟨rfl, rfl⟩ ⟨⟨rfl, Nat.le_refl _, .inl fun j hj => rfl⟩, trivial⟩ ⟨rfl, rfl, ?_, ?_, trivial, rfl⟩ <;> repeat' (first | exact trivial | exact rfl | exact Or.inl rfl | exact slotW_ren _ | exact cvW_ren _ | exact cvsW_ren _ | exact Nat.le_refl _ | exact slotW_frz rfl (Nat.le_refl _) | exact slotW_nil (Nat.le_of_ble_eq_true rfl) | exact cvW_frz rfl (Nat.le_refl _) | exact cvW_nil (Nat.le_of_ble_eq_true rfl) | exact Or.inl fun _ _ => rfl | exact fun _ _ => rfl | exact Nat.le_of_ble_eq_true rfl | refine ⟨Or.inl ⟨Nat.le_of_ble_eq_true rfl, ?_⟩, ?_⟩ | refine ⟨Or.inr ⟨Nat.le_of_ble_eq_true rfl, Nat.le_of_ble_eq_true rfl, Nat.le_of_ble_eq_true rfl⟩, ?_⟩ | exact Or.inr ⟨rfl, rfl, rfl, rfl, Nat.le_of_ble_eq_true rfl, Nat.le_of_ble_eq_true rfl, Nat.le_of_ble_eq_true rfl⟩ | refine ⟨?_, ?_⟩)
  · obtain ⟨i, rfl⟩ := Nat.exists_eq_succ_of_ne_zero hi
    rw [reads_step _ _ _ rfl] at hI
    have e1 : decide (((i + 1 : Nat) : Int) > 0) = true := decide_eq_true (by omega)
    have h2 := sp_rdDirty (L, false) hbL
    have hb2 := byts_rdD (s := (L, false)) hbL
    obtain ⟨X, hX⟩ : ∃ X, (rdD rNum) (L, false) = X := ⟨_, rfl⟩
    rw [hX] at hI h2 hb2
    obtain ⟨x, t⟩ := X
    dsimp only at hI h2 hb2
    obtain ⟨l', hl', hlen'⟩ : ∃ l', l ++ [x] = l' ∧ l'.length = l.length + 1 := ⟨_, rfl, by simp⟩
    have hI' : (l' ++ (reads (rdD rNum) i t).1, (reads (rdD rNum) i t).2) = R := by rw [← hI, ← hl', List.append_assoc]; rfl
    have hst : ∀ j, j < l'.length → (if j < l.length then dtC l j else List.take 2 (List.drop ((j - l.length) * 2) [iC x.1, iC x.2])) = dtC l' j := fun j hj => by
      rw [← hl']; exact row_appD l x (by omega)
    have ei : ((i + 1 : Nat) : Int) - 1 = (i : Int) := by omega
    simp only [e1, go_sem, reduceIte, reduceCtorEq, Nat.reduceAdd, Nat.reduceMul, Nat.reduceSub, Nat.reduceDiv, Nat.reduceMod, Nat.reduceLeDiff, Nat.reduceEqDiff, Nat.reduceBEq, Nat.reduceBNe, Int.reduceBEq, Int.reduceBNe, Int.reduceAdd, Int.reduceSub, Int.reduceMul, Int.reduceLE, Int.reduceLT, Int.reduceEq, Int.reduceNeg, Int.reduceToNat, Nat.reduceLT]
    refine CallC.os h2 [0] ?_
    rintro v ρ' ⟨rfl, rfl⟩
    simp only [go_sem, reduceIte, reduceCtorEq, Nat.reduceAdd, Nat.reduceMul, Nat.reduceSub, Nat.reduceDiv, Nat.reduceMod, Nat.reduceLeDiff, Nat.reduceEqDiff, Nat.reduceBEq, Nat.reduceBNe, Int.reduceBEq, Int.reduceBNe, Int.reduceAdd, Int.reduceSub, Int.reduceMul, Int.reduceLE, Int.reduceLT, Int.reduceEq, Int.reduceNeg, Int.reduceToNat, Nat.reduceLT]
    repeat (refine And.intro (by first | omega | (unfold inI64; omega) | (simp only [u8min, u8max, u16min, u16max, u32min, u32max]; omega)) ?_)
    rw [← hlen', ei]
    refine ⟨(i, l', t), ⟨hI', hb2, by dsimp only; omega⟩, by dsimp only; omega, Weak.by [0, 87] 0 ⟨rfl, rfl, rfl, by repeat' (first | exact trivial | exact rfl | exact Or.inl rfl | exact slotW_ren _ | exact cvW_ren _ | exact cvsW_ren _ | exact Nat.le_refl _ | exact slotW_frz rfl (Nat.le_refl _) | exact slotW_nil (Nat.le_of_ble_eq_true rfl) | exact cvW_frz rfl (Nat.le_refl _) | exact cvW_nil (Nat.le_of_ble_eq_true rfl) | exact Or.inl fun _ _ => rfl | exact fun _ _ => rfl | exact Nat.le_of_ble_eq_true rfl | refine ⟨Or.inl ⟨Nat.le_of_ble_eq_true rfl, ?_⟩, ?_⟩ | refine ⟨Or.inr ⟨Nat.le_of_ble_eq_true rfl, Nat.le_of_ble_eq_true rfl, Nat.le_of_ble_eq_true rfl⟩, ?_⟩ | exact Or.inr ⟨rfl, rfl, rfl, rfl, Nat.le_of_ble_eq_true rfl, Nat.le_of_ble_eq_true rfl, Nat.le_of_ble_eq_true rfl⟩ | refine ⟨?_, ?_⟩), ?_⟩⟩
    exact ⟨.inl ⟨Nat.le_of_ble_eq_true rfl, by repeat' (first | exact trivial | exact rfl | exact Or.inl rfl | exact slotW_ren _ | exact cvW_ren _ | exact cvsW_ren _ | exact Nat.le_refl _ | exact slotW_frz rfl (Nat.le_refl _) | exact slotW_nil (Nat.le_of_ble_eq_true rfl) | exact cvW_frz rfl (Nat.le_refl _) | exact cvW_nil (Nat.le_of_ble_eq_true rfl) | exact Or.inl fun _ _ => rfl | exact fun _ _ => rfl | exact Nat.le_of_ble_eq_true rfl | refine ⟨Or.inl ⟨Nat.le_of_ble_eq_true rfl, ?_⟩, ?_⟩ | refine ⟨Or.inr ⟨Nat.le_of_ble_eq_true rfl, Nat.le_of_ble_eq_true rfl, Nat.le_of_ble_eq_true rfl⟩, ?_⟩ | exact Or.inr ⟨rfl, rfl, rfl, rfl, Nat.le_of_ble_eq_true rfl, Nat.le_of_ble_eq_true rfl, Nat.le_of_ble_eq_true rfl⟩ | refine ⟨?_, ?_⟩)⟩, .inl ⟨Nat.le_of_ble_eq_true rfl, rfl, Nat.le_refl _, .inr fun j hj => cvsW_of (hst j hj) ⟨rfl, rfl, trivial⟩⟩, trivial⟩

theorem sp_rdOpen (s : St2) (hb : byts s.1) : FSpec Try.prog 32 [.cv (.ptr 0 0 0 0)] [rS s] (fun v ρ' => v = .agg [iC (rdO s).1.1, mvS (rdO s).1.2.2, iC (rdO s).1.2.1] ∧ ρ' = [rS (rdO s).2]) := by
  have h1 := sp_rdNum 2 (by omega) s hb
  have b1 := byts_rNum (n := 2) hb
  have h2 := sp_rdNum 1 (by omega) _ b1
  have b2 := byts_rNum (n := 1) b1
  have h3 := sp_readsM _ b2
  unfold rdO
  dsimp only
  obtain ⟨A, hA⟩ : ∃ A, rNum 2 s = A := ⟨_, rfl⟩
  rw [hA] at h1 h2 h3 ⊢
  obtain ⟨B, hB⟩ : ∃ B, rNum 1 A.2 = B := ⟨_, rfl⟩
  rw [hB] at h2 h3 ⊢
  obtain ⟨C, hC⟩ : ∃ C, rList (rdM rNum) B.2 = C := ⟨_, rfl⟩
  rw [hC] at h3 ⊢
  refine FSpec.of follow Try.func32 c32 (Nat.le_of_ble_eq_true rfl) fun hf => ?_
  simp only [sc32, go_sem, reduceIte, reduceCtorEq, Nat.reduceAdd, Nat.reduceMul, Nat.reduceSub, Nat.reduceDiv, Nat.reduceMod, Nat.reduceLeDiff, Nat.reduceEqDiff, Nat.reduceBEq, Nat.reduceBNe, Int.reduceBEq, Int.reduceBNe, Int.reduceAdd, Int.reduceSub, Int.reduceMul, Int.reduceLE, Int.reduceLT, Int.reduceEq, Int.reduceNeg, Int.reduceToNat, Nat.reduceLT]
  refine CallC.os h1 [0] ?_
  rintro v ρ' ⟨rfl, rfl⟩
  simp only [go_sem, reduceIte, reduceCtorEq, Nat.reduceAdd, Nat.reduceMul, Nat.reduceSub, Nat.reduceDiv, Nat.reduceMod, Nat.reduceLeDiff, Nat.reduceEqDiff, Nat.reduceBEq, Nat.reduceBNe, Int.reduceBEq, Int.reduceBNe, Int.reduceAdd, Int.reduceSub, Int.reduceMul, Int.reduceLE, Int.reduceLT, Int.reduceEq, Int.reduceNeg, Int.reduceToNat, Nat.reduceLT]
  refine CallC.os h2 [0] ?_
  rintro v ρ' ⟨rfl, rfl⟩
  simp only [go_sem, reduceIte, reduceCtorEq, Nat.reduceAdd, Nat.reduceMul, Nat.reduceSub, Nat.reduceDiv, Nat.reduceMod, Nat.reduceLeDiff, Nat.reduceEqDiff, Nat.reduceBEq, Nat.reduceBNe, Int.reduceBEq, Int.reduceBNe, Int.reduceAdd, Int.reduceSub, Int.reduceMul, Int.reduceLE, Int.reduceLT, Int.reduceEq, Int.reduceNeg, Int.reduceToNat, Nat.reduceLT]
  refine CallC.os h3 [0] ?_
  rintro v ρ' ⟨rfl, rfl⟩
  simp only [go_sem, reduceIte, reduceCtorEq, Nat.reduceAdd, Nat.reduceMul, Nat.reduceSub, Nat.reduceDiv, Nat.reduceMod, Nat.reduceLeDiff, Nat.reduceEqDiff, Nat.reduceBEq, Nat.reduceBNe, Int.reduceBEq, Int.reduceBNe, Int.reduceAdd, Int.reduceSub, Int.reduceMul, Int.reduceLE, Int.reduceLT, Int.reduceEq, Int.reduceNeg, Int.reduceToNat, Nat.reduceLT]
  refine RetC.bk [] ⟨rfl, rfl⟩

theorem row_appO (l : List Op) (x : Op) {j : Nat} (hj : j < l.length + 1) : (if j < l.length then opC l j else List.take 3 (List.drop ((j - l.length) * 3) [iC x.1, mvS x.2.2, iC x.2.1])) = opC (l ++ [x]) j := by
  by_cases h : j < l.length
  · rw [if_pos h]
    simp only [opC, List.getD_eq_getElem?_getD, List.getElem?_append_left h]
  · rw [if_neg h, show j - l.length = 0 by omega]
    obtain rfl : j = l.length := by omega
    simp only [opC, List.getD_eq_getElem?_getD, List.getElem?_append_right (Nat.le_refl _), Nat.sub_self, List.getElem?_cons_zero, Option.getD_some]
    rfl
set_option maxHeartbeats 8000000 in
theorem sp_readsO (s : St2) (hb : byts s.1) : FSpec Try.prog 31 [.cv (.ptr 0 0 0 0), .cv (.fn (.func 32) [.ptr 0 0 0 0] [])] [rS s] (fun v ρ' => v = .cv (opS (rList rdO s).1) ∧ ρ' = [rS (rList rdO s).2]) := by
  have h1 := sp_rdNum 1 (by omega) s hb
  have hfit := fit_rNum (n := 1) (by omega) hb
  have hb1 := byts_rNum (n := 1) hb
  obtain ⟨k, hk, hk1⟩ : ∃ k : Nat, (rNum 1 s).1 = k ∧ k ≤ 255 := ⟨(rNum 1 s).1.toNat, (Int.toNat_of_nonneg hfit.1).symm, by have := hfit.2; rw [Int.pow_one] at this; omega⟩
  unfold rList
  rw [hk] at h1 ⊢
  rw [Int.toNat_natCast]
  obtain ⟨A, hA⟩ : ∃ A, (rNum 1 s).2 = A := ⟨_, rfl⟩
  rw [hA] at h1 hb1 ⊢
  clear hk hA hfit
  obtain ⟨R, hR⟩ : ∃ R, reads rdO k A = R := ⟨_, rfl⟩
  rw [hR]
  refine FSpec.of follow Try.func31 c31 (Nat.le_of_ble_eq_true rfl) fun hf => ?_
  simp only [sc31, go_sem, reduceIte, reduceCtorEq, Nat.reduceAdd, Nat.reduceMul, Nat.reduceSub, Nat.reduceDiv, Nat.reduceMod, Nat.reduceLeDiff, Nat.reduceEqDiff, Nat.reduceBEq, Nat.reduceBNe, Int.reduceBEq, Int.reduceBNe, Int.reduceAdd, Int.reduceSub, Int.reduceMul, Int.reduceLE, Int.reduceLT, Int.reduceEq, Int.reduceNeg, Int.reduceToNat, Nat.reduceLT]
  refine CallC.os h1 [0] ?_
  rintro v ρ' ⟨rfl, rfl⟩
  simp only [go_sem, reduceIte, reduceCtorEq, Nat.reduceAdd, Nat.reduceMul, Nat.reduceSub, Nat.reduceDiv, Nat.reduceMod, Nat.reduceLeDiff, Nat.reduceEqDiff, Nat.reduceBEq, Nat.reduceBNe, Int.reduceBEq, Int.reduceBNe, Int.reduceAdd, Int.reduceSub, Int.reduceMul, Int.reduceLE, Int.reduceLT, Int.reduceEq, Int.reduceNeg, Int.reduceToNat, Nat.reduceLT]
  refine LoopC.inv follow (fun y : Nat × List Op × List Int × Bool => ⟨mkSl 26 [(0, .cv (.ptr 0 0 0 0)), (1, .cv (.fn (.func 32) [.ptr 0 0 0 0] [])), (5, .cv (.slc 1 3 0 y.2.1.length none)), (6, iV y.1)], [(0, rS y.2.2), (1, .recs 3 y.2.1.length (opC y.2.1))], 2⟩)
    (fun y => (y.2.1 ++ (reads rdO y.1 y.2.2).1, (reads rdO y.1 y.2.2).2) = R ∧ byts y.2.2.1 ∧ y.2.1.length + y.1 ≤ 255) (fun y => y.1) (k, [], A) ⟨hR, hb1, by simpa using hk1⟩ (Weak.b [0] 1) ?_
  rintro ⟨i, l, L, b⟩ ⟨hI, hbL, hlen⟩
  dsimp only at hI hbL hlen
  simp only [mkSl, go_sem, reduceIte, reduceCtorEq, Nat.reduceAdd, Nat.reduceMul, Nat.reduceSub, Nat.reduceDiv, Nat.reduceMod, Nat.reduceLeDiff, Nat.reduceEqDiff, Nat.reduceBEq, Nat.reduceBNe, Int.reduceBEq, Int.reduceBNe, Int.reduceAdd, Int.reduceSub, Int.reduceMul, Int.reduceLE, Int.reduceLT, Int.reduceEq, Int.reduceNeg, Int.reduceToNat, Nat.reduceLT]
  cases b
  case true =>
    rw [reads_bad _ _ _ rfl, List.append_nil] at hI
    subst hI
    by_cases hi : i = 0
    · have e1 : decide ((i : Int) > 0) = false := decide_eq_false (by omega)
      simp only [e1, go_sem, reduceIte, reduceCtorEq, Nat.reduceAdd, Nat.reduceMul, Nat.reduceSub, Nat.reduceDiv, Nat.reduceMod, Nat.reduceLeDiff, Nat.reduceEqDiff, Nat.reduceBEq, Nat.reduceBNe, Int.reduceBEq, Int.reduceBNe, Int.reduceAdd, Int.reduceSub, Int.reduceMul, Int.reduceLE, Int.reduceLT, Int.reduceEq, Int.reduceNeg, Int.reduceToNat, Nat.reduceLT]
      refine RetC.fz [(1, .frz 3 l.length (opC l))] [] ⟨rfl, rfl⟩ ⟨⟨rfl, Nat.le_refl _, .inl fun j hj => rfl⟩, trivial⟩ ⟨rfl, rfl, ?_, ?_, trivial, rfl⟩ <;> repeat' (first | exact trivial | exact rfl | exact Or.inl rfl | exact slotW_ren _ | exact cvW_ren _ | exact cvsW_ren _ | exact Nat.le_refl _ | exact slotW_frz rfl (Nat.le_refl _) | exact slotW_nil (Nat.le_of_ble_eq_true rfl) | exact cvW_frz rfl (Nat.le_refl _) | exact cvW_nil (Nat.le_of_ble_eq_true rfl) | exact Or.inl fun _ _ => rfl | exact fun _ _ => rfl | exact Nat.le_of_ble_eq_true rfl | refine ⟨Or.inl ⟨Nat.le_of_ble_eq_true rfl, ?_⟩, ?_⟩ | refine ⟨Or.inr ⟨Nat.le_of_ble_eq_true rfl, Nat.le_of_ble_eq_true rfl, Nat.le_of_ble_eq_true rfl⟩, ?_⟩ | exact Or.inr ⟨rfl, rfl, rfl, rfl, Nat.le_of_ble_eq_true rfl, Nat.le_of_ble_eq_true rfl, Nat.le_of_ble_eq_true rfl⟩ | refine ⟨?_, ?_⟩)
    · have e1 : decide ((i : Int) > 0) = true := decide_eq_true (by omega)
      simp only [e1, go_sem, reduceIte, reduceCtorEq, Nat.reduceAdd, Nat.reduceMul, Nat.reduceSub, Nat.reduceDiv, Nat.reduceMod, Nat.reduceLeDiff, Nat.reduceEqDiff, Nat.reduceBEq, Nat.reduceBNe, Int.reduceBEq, Int.reduceBNe, Int.reduceAdd, Int.reduceSub, Int.reduceMul, Int.reduceLE, Int.reduceLT, Int.reduceEq, Int.reduceNeg, Int.reduceToNat, Nat.reduceLT]
      refine RetC.fz [(1, .frz 3 l.length (opC l))] [] ⟨rfl, rfl⟩ ⟨⟨rfl, Nat.le_refl _, .inl fun j hj => rfl⟩, trivial⟩ ⟨rfl, rfl, ?_, ?_, trivial, rfl⟩ <;> repeat' (first | exact trivial | exact rfl | exact Or.inl rfl | exact slotW_ren _ | exact cvW_ren _ | exact cvsW_ren _ | exact Nat.le_refl _ | exact slotW_frz rfl (Nat.le_refl _) | exact slotW_nil (Nat.le_of_ble_eq_true rfl) | exact cvW_frz rfl (Nat.le_refl _) | exact cvW_nil (Nat.le_of_ble_eq_true rfl) | exact Or.inl fun _ _ => rfl | exact fun _ _ => rfl | exact Nat.le_of_ble_eq_true rfl | refine ⟨Or.inl ⟨Nat.le_of_ble_eq_true rfl, ?_⟩, ?_⟩ | refine ⟨Or.inr ⟨Nat.le_of_ble_eq_true rfl, Nat.le_of_ble_eq_true rfl, Nat.le_of_ble_eq_true rfl⟩, ?_⟩ | exact Or.inr ⟨rfl, rfl, rfl, rfl, Nat.le_of_ble_eq_true rfl, Nat.le_of_ble_eq_true rfl, Nat.le_of_ble_eq_true rfl⟩ | refine ⟨?_, ?_⟩)
  by_cases hi : i = 0
  · rw [hi, reads_zero, List.append_nil] at hI
    subst hI
    have e1 : decide ((i : Int) > 0) = false := decide_eq_false (by omega)
    simp only [e1, go_sem, reduceIte, reduceCtorEq, Nat.reduceAdd, Nat.reduceMul, Nat.reduceSub, Nat.reduceDiv, Nat.reduceMod, Nat.reduceLeDiff, Nat.reduceEqDiff, Nat.reduceBEq, Nat.reduceBNe, Int.reduceBEq, Int.reduceBNe, Int.reduceAdd, Int.reduceSub, Int.reduceMul, Int.reduceLE, Int.reduceLT, Int.reduceEq, Int.reduceNeg, Int.reduceToNat, Nat.reduceLT]
    refine RetC.fz [(1, .frz 3 l.length (opC l))] [] ⟨rfl, rfl⟩ ⟨⟨rfl, Nat.le_refl _, .inl fun j hj => rfl⟩, trivial⟩ ⟨rfl, rfl, ?_, ?_, trivial, rfl⟩ <;> repeat' (first | exact trivial | exact rfl | exact Or.inl rfl | exact slotW_ren _ | exact cvW_ren _ | exact cvsW_ren _ | exact Nat.le_refl _ | exact slotW_frz rfl (Nat.le_refl _) | exact slotW_nil (Nat.le_of_ble_eq_true rfl) | exact cvW_frz rfl (Nat.le_refl _) | exact cvW_nil (Nat.le_of_ble_eq_true rfl) | exact Or.inl fun _ _ => rfl | exact fun _ _ => rfl | exact Nat.le_of_ble_eq_true rfl | refine ⟨Or.inl ⟨Nat.le_of_ble_eq_true rfl, ?_⟩, ?_⟩ | refine ⟨Or.inr ⟨Nat.le_of_ble_eq_true rfl, Nat.le_of_ble_eq_true rfl, Nat.le_of_ble_eq_true rfl⟩, ?_⟩ | exact Or.inr ⟨rfl, rfl, rfl, rfl, Nat.le_of_ble_eq_true rfl, Nat.le_of_ble_eq_true rfl, Nat.le_of_ble_eq_true rfl⟩ | refine ⟨?_, ?_⟩)
  · obtain ⟨i, rfl⟩ := Nat.exists_eq_succ_of_ne_zero hi
    rw [reads_step _ _ _ rfl] at hI
    have e1 : decide (((i + 1 : Nat) : Int) > 0) = true := decide_eq_true (by omega)
    have h2 := sp_rdOpen (L, false) hbL
    have hb2 := byts_rdO (s := (L, false)) hbL
    obtain ⟨X, hX⟩ : ∃ X, rdO (L, false) = X := ⟨_, rfl⟩
    rw [hX] at hI h2 hb2
    obtain ⟨x, t⟩ := X
    dsimp only at hI h2 hb2
    obtain ⟨l', hl', hlen'⟩ : ∃ l', l ++ [x] = l' ∧ l'.length = l.length + 1 := ⟨_, rfl, by simp⟩
    have hI' : (l' ++ (reads rdO i t).1, (reads rdO i t).2) = R := by rw [← hI, ← hl', List.append_assoc]; rfl
    have hst : ∀ j, j < l'.length → (if j < l.length then opC l j else List.take 3 (List.drop ((j - l.length) * 3) [iC x.1, mvS x.2.2, iC x.2.1])) = opC l' j := fun j hj => by
      rw [← hl']; exact row_appO l x (by omega)
    have ei : ((i + 1 : Nat) : Int) - 1 = (i : Int) := by omega
    simp only [e1, go_sem, reduceIte, reduceCtorEq, Nat.reduceAdd, Nat.reduceMul, Nat.reduceSub, Nat.reduceDiv, Nat.reduceMod, Nat.reduceLeDiff, Nat.reduceEqDiff, Nat.reduceBEq, Nat.reduceBNe, Int.reduceBEq, Int.reduceBNe, Int.reduceAdd, Int.reduceSub, Int.reduceMul, Int.reduceLE, Int.reduceLT, Int.reduceEq, Int.reduceNeg, Int.reduceToNat, Nat.reduceLT]
    refine CallC.os h2 [0] ?_
    rintro v ρ' ⟨rfl, rfl⟩
    simp only [go_sem, reduceIte, reduceCtorEq, Nat.reduceAdd, Nat.reduceMul, Nat.reduceSub, Nat.reduceDiv, Nat.reduceMod, Nat.reduceLeDiff, Nat.reduceEqDiff, Nat.reduceBEq, Nat.reduceBNe, Int.reduceBEq, Int.reduceBNe, Int.reduceAdd, Int.reduceSub, Int.reduceMul, Int.reduceLE, Int.reduceLT, Int.reduceEq, Int.reduceNeg, Int.reduceToNat, Nat.reduceLT]
    repeat (refine And.intro (by first | omega | (unfold inI64; omega) | (simp only [u8min, u8max, u16min, u16max, u32min, u32max]; omega)) ?_)
    rw [← hlen', ei]
    refine ⟨(i, l', t), ⟨hI', hb2, by dsimp only; omega⟩, by dsimp only; omega, Weak.by [0, 87] 0 ⟨rfl, rfl, rfl, by repeat' (first | exact trivial | exact rfl | exact Or.inl rfl | exact slotW_ren _ | exact cvW_ren _ | exact cvsW_ren _ | exact Nat.le_refl _ | exact slotW_frz rfl (Nat.le_refl _) | exact slotW_nil (Nat.le_of_ble_eq_true rfl) | exact cvW_frz rfl (Nat.le_refl _) | exact cvW_nil (Nat.le_of_ble_eq_true rfl) | exact Or.inl fun _ _ => rfl | exact fun _ _ => rfl | exact Nat.le_of_ble_eq_true rfl | refine ⟨Or.inl ⟨Nat.le_of_ble_eq_true rfl, ?_⟩, ?_⟩ | refine ⟨Or.inr ⟨Nat.le_of_ble_eq_true rfl, Nat.le_of_ble_eq_true rfl, Nat.le_of_ble_eq_true rfl⟩, ?_⟩ | exact Or.inr ⟨rfl, rfl, rfl, rfl, Nat.le_of_ble_eq_true rfl, Nat.le_of_ble_eq_true rfl, Nat.le_of_ble_eq_true rfl⟩ | refine ⟨?_, ?_⟩), ?_⟩⟩
    exact ⟨.inl ⟨Nat.le_of_ble_eq_true rfl, by repeat' (first | exact trivial | exact rfl | exact Or.inl rfl | exact slotW_ren _ | exact cvW_ren _ | exact cvsW_ren _ | exact Nat.le_refl _ | exact slotW_frz rfl (Nat.le_refl _) | exact slotW_nil (Nat.le_of_ble_eq_true rfl) | exact cvW_frz rfl (Nat.le_refl _) | exact cvW_nil (Nat.le_of_ble_eq_true rfl) | exact Or.inl fun _ _ => rfl | exact fun _ _ => rfl | exact Nat.le_of_ble_eq_true rfl | refine ⟨Or.inl ⟨Nat.le_of_ble_eq_true rfl, ?_⟩, ?_⟩ | refine ⟨Or.inr ⟨Nat.le_of_ble_eq_true rfl, Nat.le_of_ble_eq_true rfl, Nat.le_of_ble_eq_true rfl⟩, ?_⟩ | exact Or.inr ⟨rfl, rfl, rfl, rfl, Nat.le_of_ble_eq_true rfl, Nat.le_of_ble_eq_true rfl, Nat.le_of_ble_eq_true rfl⟩ | refine ⟨?_, ?_⟩)⟩, .inl ⟨Nat.le_of_ble_eq_true rfl, rfl, Nat.le_refl _, .inr fun j hj => cvsW_of (hst j hj) ⟨rfl, .inl rfl, rfl, trivial⟩⟩, trivial⟩
end Go.Proofs.Ytbhefgajgdcajaa

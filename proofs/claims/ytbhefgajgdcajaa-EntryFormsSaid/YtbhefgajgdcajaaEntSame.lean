/- Same: the program's. -/
import Derived.Test.YtbhefgajgdcajaaSxShort
import Derived.Test.YtbhefgajgdcajaaEntTake
set_option linter.unusedVariables false
set_option linter.unusedSimpArgs false
namespace Go.Proofs.Ytbhefgajgdcajaa
open Sx
attribute [local go_sem] wpC_skip wpC_reg wpC_draw wpC_seq wpC_block wpC_cond wpC_loop wpC_exit wpC_join joinK_n joinK_e joinK_r wpC_ret seqK_n seqK_e seqK_r blockK_n blockK_e blockK_r Fs_nil Fs_none Fs_some stepS_eq Fc_nil Fc_none Fc_some stepC_eq opFn ev cval lk need SV.nm enumR setS setR setRs cellsOf svOf rget spliceC rset src oint eqCells cvs fillC rows ints svDest keyOf2 ridC widens ibool icalc ibin List.replicate List.getD_cons_zero List.getD_cons_succ List.getD_nil List.set_cons_zero List.set_cons_succ List.map_cons List.map_nil List.foldl_cons List.foldl_nil List.length_cons List.length_nil List.drop_zero List.drop_succ_cons List.drop_nil List.take_succ_cons List.take_zero List.take_nil List.cons_append List.nil_append List.append_nil List.headD_cons List.flatten_cons List.flatten_nil Option.map_some Option.map_none Option.getD_none Option.getD_some true_and and_true Nat.zero_add Nat.add_zero appFn svRoom sameO beq_self_eq_true Nat.zero_mul Nat.mul_zero Nat.sub_zero Nat.zero_le Nat.le_refl and_self okB Bool.not_false Bool.true_or Bool.false_or Bool.not_true List.all_nil List.all_cons Int.toNat_zero Int.toNat_one CondC_true CondC_false beq_true beq_false opEn callEn skipEn slotsOf tmpsOf SOp.operands oo free disj List.contains_cons List.contains_nil Option.toList_some Option.toList_none Bool.and_true Bool.true_and Bool.or_false Bool.or_true Bool.and_self Bool.and_false Bool.false_and decide_true decide_false List.range'_succ List.range'_zero Int.toNat_natCast Int.natCast_nonneg Int.cast_ofNat_Int ne_eq not_false_eq_true updGiven updNew getR muOf nuOf owned isRo List.range.loop List.filter SV.ren CV.ren CV.renL SV.renL Res.ren List.length List.idxOf? List.findIdx? List.findIdx?.go slotsW slotW disB List.range
set_option maxRecDepth 100000
theorem take_eqs {α : Type} {d : α} {l l' : List α} {i : Nat} (h : i < l.length) (h' : i < l'.length) (h1 : l.take i = l'.take i) (h2 : l.getD i d = l'.getD i d) : l.take (i + 1) = l'.take (i + 1) := by
  rw [List.getD_eq_getElem?_getD, List.getD_eq_getElem?_getD, List.getElem?_eq_getElem h, List.getElem?_eq_getElem h'] at h2
  rw [List.take_add_one, List.take_add_one, h1, List.getElem?_eq_getElem h, List.getElem?_eq_getElem h']
  rw [show l[i] = l'[i] from h2]
theorem getD_eqs {α : Type} {d : α} {l l' : List α} {i : Nat} (h : l = l') : l.getD i d = l'.getD i d := by rw [h]
instance decMs : DecidableEq (List Mv) := inferInstance
instance decIMs : DecidableEq (Int × List Mv) := @instDecidableEqProd Int (List Mv) _ decMs
instance decOp : DecidableEq Op := @instDecidableEqProd Int (Int × List Mv) _ decIMs
theorem mv_beq (x y : Mv) : (x.1 == y.1 && (x.2.1 == y.2.1 && (x.2.2.1 == y.2.2.1 && x.2.2.2 == y.2.2.2))) = decide (x = y) := by
  obtain ⟨a, b, c, d⟩ := x
  obtain ⟨a', b', c', d'⟩ := y
  rw [Bool.eq_iff_iff]
  simp
theorem lv_beq (x y : Lv) : (x.1 == y.1 && (x.2.1 == y.2.1 && (x.2.2.1 == y.2.2.1 && x.2.2.2 == y.2.2.2))) = decide (x = y) := by
  obtain ⟨a, b, c, d⟩ := x
  obtain ⟨a', b', c', d'⟩ := y
  rw [Bool.eq_iff_iff]
  simp
theorem dt_beq (x y : Dt) : (x.1 == y.1 && x.2 == y.2) = decide (x = y) := by
  obtain ⟨a, b⟩ := x
  obtain ⟨a', b'⟩ := y
  rw [Bool.eq_iff_iff]
  simp

set_option maxHeartbeats 8000000 in
theorem sp_equalM (l l' : List Mv) (hl : l.length ≤ 1000000) : FSpec Try.prog 72 [.cv (mvS l), .cv (mvS l')] [] (fun v ρ' => v = bV (decide (l = l')) ∧ ρ' = []) := by
  obtain ⟨b, hb⟩ : ∃ b, decide (l = l') = b := ⟨_, rfl⟩
  rw [hb]
  refine FSpec.of follow Try.func72 c72 (Nat.le_of_ble_eq_true rfl) fun hf => ?_
  by_cases hn : l.length = l'.length
  case neg =>
    have e1 : ((l.length : Int) != l'.length) = true := by simp; omega
    obtain rfl : b = false := by rw [← hb]; exact decide_eq_false fun h => hn (by rw [h])
    simp only [sc72, e1, go_sem, reduceIte, reduceCtorEq, Nat.reduceAdd, Nat.reduceMul, Nat.reduceSub, Nat.reduceDiv, Nat.reduceMod, Nat.reduceLeDiff, Nat.reduceEqDiff, Nat.reduceBEq, Nat.reduceBNe, Int.reduceBEq, Int.reduceBNe, Int.reduceAdd, Int.reduceSub, Int.reduceMul, Int.reduceLE, Int.reduceLT, Int.reduceEq, Int.reduceNeg, Int.reduceToNat, Nat.reduceLT]
    refine RetC.bk [] ⟨rfl, rfl⟩
  have e1 : ((l.length : Int) != l'.length) = false := by simp; omega
  simp only [sc72, e1, go_sem, reduceIte, reduceCtorEq, Nat.reduceAdd, Nat.reduceMul, Nat.reduceSub, Nat.reduceDiv, Nat.reduceMod, Nat.reduceLeDiff, Nat.reduceEqDiff, Nat.reduceBEq, Nat.reduceBNe, Int.reduceBEq, Int.reduceBNe, Int.reduceAdd, Int.reduceSub, Int.reduceMul, Int.reduceLE, Int.reduceLT, Int.reduceEq, Int.reduceNeg, Int.reduceToNat, Nat.reduceLT]
  refine LoopC.inv follow (fun i : Nat => ⟨mkSl 26 [(0, .cv (mvS l)), (1, .cv (mvS l')), (12, iV l.length), (13, iV i)], [], 0⟩)
    (fun i => i ≤ l.length ∧ l.take i = l'.take i) (fun i => l.length - i) 0 ⟨Nat.zero_le _, rfl⟩ (Weak.b [] 0) ?_
  rintro i ⟨hi, ht⟩
  simp only [mkSl, go_sem, reduceIte, reduceCtorEq, Nat.reduceAdd, Nat.reduceMul, Nat.reduceSub, Nat.reduceDiv, Nat.reduceMod, Nat.reduceLeDiff, Nat.reduceEqDiff, Nat.reduceBEq, Nat.reduceBNe, Int.reduceBEq, Int.reduceBNe, Int.reduceAdd, Int.reduceSub, Int.reduceMul, Int.reduceLE, Int.reduceLT, Int.reduceEq, Int.reduceNeg, Int.reduceToNat, Nat.reduceLT]
  refine CondC.of (fun hc => ?_) (fun hc => ?_)
  · simp only [decide_eq_true_eq] at hc
    have hc' : i < l.length := by omega
    simp only [go_sem, reduceIte, reduceCtorEq, Nat.reduceAdd, Nat.reduceMul, Nat.reduceSub, Nat.reduceDiv, Nat.reduceMod, Nat.reduceLeDiff, Nat.reduceEqDiff, Nat.reduceBEq, Nat.reduceBNe, Int.reduceBEq, Int.reduceBNe, Int.reduceAdd, Int.reduceSub, Int.reduceMul, Int.reduceLE, Int.reduceLT, Int.reduceEq, Int.reduceNeg, Int.reduceToNat, Nat.reduceLT]
    repeat (refine And.intro (by first | omega | (unfold inI64; omega) | (simp only [u8min, u8max, u16min, u16max, u32min, u32max]; omega)) ?_)
    by_cases he : l.getD i (0, 0, 0, 0) = l'.getD i (0, 0, 0, 0)
    · simp only [mv_beq, decide_eq_true he, Bool.not_true, go_sem, reduceIte, reduceCtorEq, Nat.reduceAdd, Nat.reduceMul, Nat.reduceSub, Nat.reduceDiv, Nat.reduceMod, Nat.reduceLeDiff, Nat.reduceEqDiff, Nat.reduceBEq, Nat.reduceBNe, Int.reduceBEq, Int.reduceBNe, Int.reduceAdd, Int.reduceSub, Int.reduceMul, Int.reduceLE, Int.reduceLT, Int.reduceEq, Int.reduceNeg, Int.reduceToNat, Nat.reduceLT]
      repeat (refine And.intro (by first | omega | (unfold inI64; omega) | (simp only [u8min, u8max, u16min, u16max, u32min, u32max]; omega)) ?_)
      exact ⟨i + 1, ⟨by omega, take_eqs hc' (by omega) ht he⟩, by omega, Weak.b [] 0⟩
    · obtain rfl : b = false := by rw [← hb]; exact decide_eq_false fun h => he (getD_eqs h)
      simp only [mv_beq, decide_eq_false he, Bool.not_false, go_sem, reduceIte, reduceCtorEq, Nat.reduceAdd, Nat.reduceMul, Nat.reduceSub, Nat.reduceDiv, Nat.reduceMod, Nat.reduceLeDiff, Nat.reduceEqDiff, Nat.reduceBEq, Nat.reduceBNe, Int.reduceBEq, Int.reduceBNe, Int.reduceAdd, Int.reduceSub, Int.reduceMul, Int.reduceLE, Int.reduceLT, Int.reduceEq, Int.reduceNeg, Int.reduceToNat, Nat.reduceLT]
      refine RetC.bk [] ⟨rfl, rfl⟩
  · simp only [decide_eq_false_iff_not] at hc
    obtain rfl : i = l.length := by omega
    obtain rfl : b = true := by
      rw [← hb]
      rw [List.take_length, hn, List.take_length] at ht
      exact decide_eq_true ht
    simp only [go_sem, reduceIte, reduceCtorEq, Nat.reduceAdd, Nat.reduceMul, Nat.reduceSub, Nat.reduceDiv, Nat.reduceMod, Nat.reduceLeDiff, Nat.reduceEqDiff, Nat.reduceBEq, Nat.reduceBNe, Int.reduceBEq, Int.reduceBNe, Int.reduceAdd, Int.reduceSub, Int.reduceMul, Int.reduceLE, Int.reduceLT, Int.reduceEq, Int.reduceNeg, Int.reduceToNat, Nat.reduceLT]
    refine RetC.bk [] ⟨rfl, rfl⟩

set_option maxHeartbeats 8000000 in
theorem sp_equalL (l l' : List Lv) (hl : l.length ≤ 1000000) : FSpec Try.prog 73 [.cv (lvS l), .cv (lvS l')] [] (fun v ρ' => v = bV (decide (l = l')) ∧ ρ' = []) := by
  obtain ⟨b, hb⟩ : ∃ b, decide (l = l') = b := ⟨_, rfl⟩
  rw [hb]
  refine FSpec.of follow Try.func73 c73 (Nat.le_of_ble_eq_true rfl) fun hf => ?_
  by_cases hn : l.length = l'.length
  case neg =>
    have e1 : ((l.length : Int) != l'.length) = true := by simp; omega
    obtain rfl : b = false := by rw [← hb]; exact decide_eq_false fun h => hn (by rw [h])
    simp only [sc73, e1, go_sem, reduceIte, reduceCtorEq, Nat.reduceAdd, Nat.reduceMul, Nat.reduceSub, Nat.reduceDiv, Nat.reduceMod, Nat.reduceLeDiff, Nat.reduceEqDiff, Nat.reduceBEq, Nat.reduceBNe, Int.reduceBEq, Int.reduceBNe, Int.reduceAdd, Int.reduceSub, Int.reduceMul, Int.reduceLE, Int.reduceLT, Int.reduceEq, Int.reduceNeg, Int.reduceToNat, Nat.reduceLT]
    refine RetC.bk [] ⟨rfl, rfl⟩
  have e1 : ((l.length : Int) != l'.length) = false := by simp; omega
  simp only [sc73, e1, go_sem, reduceIte, reduceCtorEq, Nat.reduceAdd, Nat.reduceMul, Nat.reduceSub, Nat.reduceDiv, Nat.reduceMod, Nat.reduceLeDiff, Nat.reduceEqDiff, Nat.reduceBEq, Nat.reduceBNe, Int.reduceBEq, Int.reduceBNe, Int.reduceAdd, Int.reduceSub, Int.reduceMul, Int.reduceLE, Int.reduceLT, Int.reduceEq, Int.reduceNeg, Int.reduceToNat, Nat.reduceLT]
  refine LoopC.inv follow (fun i : Nat => ⟨mkSl 26 [(0, .cv (lvS l)), (1, .cv (lvS l')), (12, iV l.length), (13, iV i)], [], 0⟩)
    (fun i => i ≤ l.length ∧ l.take i = l'.take i) (fun i => l.length - i) 0 ⟨Nat.zero_le _, rfl⟩ (Weak.b [] 0) ?_
  rintro i ⟨hi, ht⟩
  simp only [mkSl, go_sem, reduceIte, reduceCtorEq, Nat.reduceAdd, Nat.reduceMul, Nat.reduceSub, Nat.reduceDiv, Nat.reduceMod, Nat.reduceLeDiff, Nat.reduceEqDiff, Nat.reduceBEq, Nat.reduceBNe, Int.reduceBEq, Int.reduceBNe, Int.reduceAdd, Int.reduceSub, Int.reduceMul, Int.reduceLE, Int.reduceLT, Int.reduceEq, Int.reduceNeg, Int.reduceToNat, Nat.reduceLT]
  refine CondC.of (fun hc => ?_) (fun hc => ?_)
  · simp only [decide_eq_true_eq] at hc
    have hc' : i < l.length := by omega
    simp only [go_sem, reduceIte, reduceCtorEq, Nat.reduceAdd, Nat.reduceMul, Nat.reduceSub, Nat.reduceDiv, Nat.reduceMod, Nat.reduceLeDiff, Nat.reduceEqDiff, Nat.reduceBEq, Nat.reduceBNe, Int.reduceBEq, Int.reduceBNe, Int.reduceAdd, Int.reduceSub, Int.reduceMul, Int.reduceLE, Int.reduceLT, Int.reduceEq, Int.reduceNeg, Int.reduceToNat, Nat.reduceLT]
    repeat (refine And.intro (by first | omega | (unfold inI64; omega) | (simp only [u8min, u8max, u16min, u16max, u32min, u32max]; omega)) ?_)
    by_cases he : l.getD i (0, 0, 0, false) = l'.getD i (0, 0, 0, false)
    · simp only [lv_beq, decide_eq_true he, Bool.not_true, go_sem, reduceIte, reduceCtorEq, Nat.reduceAdd, Nat.reduceMul, Nat.reduceSub, Nat.reduceDiv, Nat.reduceMod, Nat.reduceLeDiff, Nat.reduceEqDiff, Nat.reduceBEq, Nat.reduceBNe, Int.reduceBEq, Int.reduceBNe, Int.reduceAdd, Int.reduceSub, Int.reduceMul, Int.reduceLE, Int.reduceLT, Int.reduceEq, Int.reduceNeg, Int.reduceToNat, Nat.reduceLT]
      repeat (refine And.intro (by first | omega | (unfold inI64; omega) | (simp only [u8min, u8max, u16min, u16max, u32min, u32max]; omega)) ?_)
      exact ⟨i + 1, ⟨by omega, take_eqs hc' (by omega) ht he⟩, by omega, Weak.b [] 0⟩
    · obtain rfl : b = false := by rw [← hb]; exact decide_eq_false fun h => he (getD_eqs h)
      simp only [lv_beq, decide_eq_false he, Bool.not_false, go_sem, reduceIte, reduceCtorEq, Nat.reduceAdd, Nat.reduceMul, Nat.reduceSub, Nat.reduceDiv, Nat.reduceMod, Nat.reduceLeDiff, Nat.reduceEqDiff, Nat.reduceBEq, Nat.reduceBNe, Int.reduceBEq, Int.reduceBNe, Int.reduceAdd, Int.reduceSub, Int.reduceMul, Int.reduceLE, Int.reduceLT, Int.reduceEq, Int.reduceNeg, Int.reduceToNat, Nat.reduceLT]
      refine RetC.bk [] ⟨rfl, rfl⟩
  · simp only [decide_eq_false_iff_not] at hc
    obtain rfl : i = l.length := by omega
    obtain rfl : b = true := by
      rw [← hb]
      rw [List.take_length, hn, List.take_length] at ht
      exact decide_eq_true ht
    simp only [go_sem, reduceIte, reduceCtorEq, Nat.reduceAdd, Nat.reduceMul, Nat.reduceSub, Nat.reduceDiv, Nat.reduceMod, Nat.reduceLeDiff, Nat.reduceEqDiff, Nat.reduceBEq, Nat.reduceBNe, Int.reduceBEq, Int.reduceBNe, Int.reduceAdd, Int.reduceSub, Int.reduceMul, Int.reduceLE, Int.reduceLT, Int.reduceEq, Int.reduceNeg, Int.reduceToNat, Nat.reduceLT]
    refine RetC.bk [] ⟨rfl, rfl⟩

set_option maxHeartbeats 8000000 in
theorem sp_equalD (l l' : List Dt) (hl : l.length ≤ 1000000) : FSpec Try.prog 74 [.cv (dtS l), .cv (dtS l')] [] (fun v ρ' => v = bV (decide (l = l')) ∧ ρ' = []) := by
  obtain ⟨b, hb⟩ : ∃ b, decide (l = l') = b := ⟨_, rfl⟩
  rw [hb]
  refine FSpec.of follow Try.func74 c74 (Nat.le_of_ble_eq_true rfl) fun hf => ?_
  by_cases hn : l.length = l'.length
  case neg =>
    have e1 : ((l.length : Int) != l'.length) = true := by simp; omega
    obtain rfl : b = false := by rw [← hb]; exact decide_eq_false fun h => hn (by rw [h])
    simp only [sc74, e1, go_sem, reduceIte, reduceCtorEq, Nat.reduceAdd, Nat.reduceMul, Nat.reduceSub, Nat.reduceDiv, Nat.reduceMod, Nat.reduceLeDiff, Nat.reduceEqDiff, Nat.reduceBEq, Nat.reduceBNe, Int.reduceBEq, Int.reduceBNe, Int.reduceAdd, Int.reduceSub, Int.reduceMul, Int.reduceLE, Int.reduceLT, Int.reduceEq, Int.reduceNeg, Int.reduceToNat, Nat.reduceLT]
    refine RetC.bk [] ⟨rfl, rfl⟩
  have e1 : ((l.length : Int) != l'.length) = false := by simp; omega
  simp only [sc74, e1, go_sem, reduceIte, reduceCtorEq, Nat.reduceAdd, Nat.reduceMul, Nat.reduceSub, Nat.reduceDiv, Nat.reduceMod, Nat.reduceLeDiff, Nat.reduceEqDiff, Nat.reduceBEq, Nat.reduceBNe, Int.reduceBEq, Int.reduceBNe, Int.reduceAdd, Int.reduceSub, Int.reduceMul, Int.reduceLE, Int.reduceLT, Int.reduceEq, Int.reduceNeg, Int.reduceToNat, Nat.reduceLT]
  refine LoopC.inv follow (fun i : Nat => ⟨mkSl 26 [(0, .cv (dtS l)), (1, .cv (dtS l')), (12, iV l.length), (13, iV i)], [], 0⟩)
    (fun i => i ≤ l.length ∧ l.take i = l'.take i) (fun i => l.length - i) 0 ⟨Nat.zero_le _, rfl⟩ (Weak.b [] 0) ?_
  rintro i ⟨hi, ht⟩
  simp only [mkSl, go_sem, reduceIte, reduceCtorEq, Nat.reduceAdd, Nat.reduceMul, Nat.reduceSub, Nat.reduceDiv, Nat.reduceMod, Nat.reduceLeDiff, Nat.reduceEqDiff, Nat.reduceBEq, Nat.reduceBNe, Int.reduceBEq, Int.reduceBNe, Int.reduceAdd, Int.reduceSub, Int.reduceMul, Int.reduceLE, Int.reduceLT, Int.reduceEq, Int.reduceNeg, Int.reduceToNat, Nat.reduceLT]
  refine CondC.of (fun hc => ?_) (fun hc => ?_)
  · simp only [decide_eq_true_eq] at hc
    have hc' : i < l.length := by omega
    simp only [go_sem, reduceIte, reduceCtorEq, Nat.reduceAdd, Nat.reduceMul, Nat.reduceSub, Nat.reduceDiv, Nat.reduceMod, Nat.reduceLeDiff, Nat.reduceEqDiff, Nat.reduceBEq, Nat.reduceBNe, Int.reduceBEq, Int.reduceBNe, Int.reduceAdd, Int.reduceSub, Int.reduceMul, Int.reduceLE, Int.reduceLT, Int.reduceEq, Int.reduceNeg, Int.reduceToNat, Nat.reduceLT]
    repeat (refine And.intro (by first | omega | (unfold inI64; omega) | (simp only [u8min, u8max, u16min, u16max, u32min, u32max]; omega)) ?_)
    by_cases he : l.getD i (0, 0) = l'.getD i (0, 0)
    · simp only [dt_beq, decide_eq_true he, Bool.not_true, go_sem, reduceIte, reduceCtorEq, Nat.reduceAdd, Nat.reduceMul, Nat.reduceSub, Nat.reduceDiv, Nat.reduceMod, Nat.reduceLeDiff, Nat.reduceEqDiff, Nat.reduceBEq, Nat.reduceBNe, Int.reduceBEq, Int.reduceBNe, Int.reduceAdd, Int.reduceSub, Int.reduceMul, Int.reduceLE, Int.reduceLT, Int.reduceEq, Int.reduceNeg, Int.reduceToNat, Nat.reduceLT]
      repeat (refine And.intro (by first | omega | (unfold inI64; omega) | (simp only [u8min, u8max, u16min, u16max, u32min, u32max]; omega)) ?_)
      exact ⟨i + 1, ⟨by omega, take_eqs hc' (by omega) ht he⟩, by omega, Weak.b [] 0⟩
    · obtain rfl : b = false := by rw [← hb]; exact decide_eq_false fun h => he (getD_eqs h)
      simp only [dt_beq, decide_eq_false he, Bool.not_false, go_sem, reduceIte, reduceCtorEq, Nat.reduceAdd, Nat.reduceMul, Nat.reduceSub, Nat.reduceDiv, Nat.reduceMod, Nat.reduceLeDiff, Nat.reduceEqDiff, Nat.reduceBEq, Nat.reduceBNe, Int.reduceBEq, Int.reduceBNe, Int.reduceAdd, Int.reduceSub, Int.reduceMul, Int.reduceLE, Int.reduceLT, Int.reduceEq, Int.reduceNeg, Int.reduceToNat, Nat.reduceLT]
      refine RetC.bk [] ⟨rfl, rfl⟩
  · simp only [decide_eq_false_iff_not] at hc
    obtain rfl : i = l.length := by omega
    obtain rfl : b = true := by
      rw [← hb]
      rw [List.take_length, hn, List.take_length] at ht
      exact decide_eq_true ht
    simp only [go_sem, reduceIte, reduceCtorEq, Nat.reduceAdd, Nat.reduceMul, Nat.reduceSub, Nat.reduceDiv, Nat.reduceMod, Nat.reduceLeDiff, Nat.reduceEqDiff, Nat.reduceBEq, Nat.reduceBNe, Int.reduceBEq, Int.reduceBNe, Int.reduceAdd, Int.reduceSub, Int.reduceMul, Int.reduceLE, Int.reduceLT, Int.reduceEq, Int.reduceNeg, Int.reduceToNat, Nat.reduceLT]
    refine RetC.bk [] ⟨rfl, rfl⟩

set_option maxHeartbeats 8000000 in
theorem sp_sameOpen (x y : Op) (hx : x.2.2.length ≤ 1000000) : FSpec Try.prog 76 [.agg [iC x.1, mvS x.2.2, iC x.2.1], .agg [iC y.1, mvS y.2.2, iC y.2.1]] [] (fun v ρ' => v = bV (decide (x = y)) ∧ ρ' = []) := by
  have h1 := sp_equalM x.2.2 y.2.2 hx
  obtain ⟨b, hb⟩ : ∃ b, decide (x = y) = b := ⟨_, rfl⟩
  rw [hb]
  refine FSpec.of follow Try.func76 c76 (Nat.le_of_ble_eq_true rfl) fun hf => ?_
  by_cases e1 : x.1 = y.1
  case neg =>
    have k1 : (x.1 == y.1) = false := by simpa using e1
    obtain rfl : b = false := by rw [← hb]; exact decide_eq_false fun h => e1 (by rw [h])
    simp only [sc76, k1, go_sem, reduceIte, reduceCtorEq, Nat.reduceAdd, Nat.reduceMul, Nat.reduceSub, Nat.reduceDiv, Nat.reduceMod, Nat.reduceLeDiff, Nat.reduceEqDiff, Nat.reduceBEq, Nat.reduceBNe, Int.reduceBEq, Int.reduceBNe, Int.reduceAdd, Int.reduceSub, Int.reduceMul, Int.reduceLE, Int.reduceLT, Int.reduceEq, Int.reduceNeg, Int.reduceToNat, Nat.reduceLT]
    refine RetC.bk [] ⟨rfl, rfl⟩
  have k1 : (x.1 == y.1) = true := by simpa using e1
  by_cases e2 : x.2.1 = y.2.1
  case neg =>
    have k2 : (x.2.1 == y.2.1) = false := by simpa using e2
    obtain rfl : b = false := by rw [← hb]; exact decide_eq_false fun h => e2 (by rw [h])
    simp only [sc76, k1, k2, go_sem, reduceIte, reduceCtorEq, Nat.reduceAdd, Nat.reduceMul, Nat.reduceSub, Nat.reduceDiv, Nat.reduceMod, Nat.reduceLeDiff, Nat.reduceEqDiff, Nat.reduceBEq, Nat.reduceBNe, Int.reduceBEq, Int.reduceBNe, Int.reduceAdd, Int.reduceSub, Int.reduceMul, Int.reduceLE, Int.reduceLT, Int.reduceEq, Int.reduceNeg, Int.reduceToNat, Nat.reduceLT]
    refine RetC.bk [] ⟨rfl, rfl⟩
  have k2 : (x.2.1 == y.2.1) = true := by simpa using e2
  have k3 : decide (x.2.2 = y.2.2) = b := by
    rw [← hb]
    exact decide_eq_decide.2 ⟨fun h => Prod.ext e1 (Prod.ext e2 h), fun h => by rw [h]⟩
  rw [k3] at h1
  simp only [sc76, k1, k2, go_sem, reduceIte, reduceCtorEq, Nat.reduceAdd, Nat.reduceMul, Nat.reduceSub, Nat.reduceDiv, Nat.reduceMod, Nat.reduceLeDiff, Nat.reduceEqDiff, Nat.reduceBEq, Nat.reduceBNe, Int.reduceBEq, Int.reduceBNe, Int.reduceAdd, Int.reduceSub, Int.reduceMul, Int.reduceLE, Int.reduceLT, Int.reduceEq, Int.reduceNeg, Int.reduceToNat, Nat.reduceLT]
  refine CallC.os h1 [] ?_
  rintro v ρ' ⟨rfl, rfl⟩
  simp only [go_sem, reduceIte, reduceCtorEq, Nat.reduceAdd, Nat.reduceMul, Nat.reduceSub, Nat.reduceDiv, Nat.reduceMod, Nat.reduceLeDiff, Nat.reduceEqDiff, Nat.reduceBEq, Nat.reduceBNe, Int.reduceBEq, Int.reduceBNe, Int.reduceAdd, Int.reduceSub, Int.reduceMul, Int.reduceLE, Int.reduceLT, Int.reduceEq, Int.reduceNeg, Int.reduceToNat, Nat.reduceLT]
  refine RetC.bk [] ⟨rfl, rfl⟩
set_option maxHeartbeats 8000000 in
theorem sp_equalO (l l' : List Op) (hl : l.length ≤ 1000000) (hz : ∀ x ∈ l, x.2.2.length ≤ 1000000) : FSpec Try.prog 75 [.cv (opS l), .cv (opS l'), .cv (.fn (.func 76) [] [])] [] (fun v ρ' => v = bV (decide (l = l')) ∧ ρ' = []) := by
  obtain ⟨b, hb⟩ : ∃ b, decide (l = l') = b := ⟨_, rfl⟩
  rw [hb]
  refine FSpec.of follow Try.func75 c75 (Nat.le_of_ble_eq_true rfl) fun hf => ?_
  by_cases hn : l.length = l'.length
  case neg =>
    have e1 : ((l.length : Int) != l'.length) = true := by simp; omega
    obtain rfl : b = false := by rw [← hb]; exact decide_eq_false fun h => hn (by rw [h])
    simp only [sc75, e1, go_sem, reduceIte, reduceCtorEq, Nat.reduceAdd, Nat.reduceMul, Nat.reduceSub, Nat.reduceDiv, Nat.reduceMod, Nat.reduceLeDiff, Nat.reduceEqDiff, Nat.reduceBEq, Nat.reduceBNe, Int.reduceBEq, Int.reduceBNe, Int.reduceAdd, Int.reduceSub, Int.reduceMul, Int.reduceLE, Int.reduceLT, Int.reduceEq, Int.reduceNeg, Int.reduceToNat, Nat.reduceLT]
    refine RetC.bk [] ⟨rfl, rfl⟩
  have e1 : ((l.length : Int) != l'.length) = false := by simp; omega
  simp only [sc75, e1, go_sem, reduceIte, reduceCtorEq, Nat.reduceAdd, Nat.reduceMul, Nat.reduceSub, Nat.reduceDiv, Nat.reduceMod, Nat.reduceLeDiff, Nat.reduceEqDiff, Nat.reduceBEq, Nat.reduceBNe, Int.reduceBEq, Int.reduceBNe, Int.reduceAdd, Int.reduceSub, Int.reduceMul, Int.reduceLE, Int.reduceLT, Int.reduceEq, Int.reduceNeg, Int.reduceToNat, Nat.reduceLT]
  refine LoopC.inv follow (fun i : Nat => ⟨mkSl 32 [(0, .cv (opS l)), (1, .cv (opS l')), (2, .cv (.fn (.func 76) [] [])), (15, .cv (opS l)), (16, iV l.length), (17, iV i)], [], 0⟩)
    (fun i => i ≤ l.length ∧ l.take i = l'.take i) (fun i => l.length - i) 0 ⟨Nat.zero_le _, rfl⟩ (Weak.b [] 0) ?_
  rintro i ⟨hi, ht⟩
  simp only [mkSl, go_sem, reduceIte, reduceCtorEq, Nat.reduceAdd, Nat.reduceMul, Nat.reduceSub, Nat.reduceDiv, Nat.reduceMod, Nat.reduceLeDiff, Nat.reduceEqDiff, Nat.reduceBEq, Nat.reduceBNe, Int.reduceBEq, Int.reduceBNe, Int.reduceAdd, Int.reduceSub, Int.reduceMul, Int.reduceLE, Int.reduceLT, Int.reduceEq, Int.reduceNeg, Int.reduceToNat, Nat.reduceLT]
  refine CondC.of (fun hc => ?_) (fun hc => ?_)
  · simp only [decide_eq_true_eq] at hc
    have hc' : i < l.length := by omega
    have hs := sp_sameOpen (l.getD i (0, 0, [])) (l'.getD i (0, 0, [])) (hz _ (getD_mem hc' _))
    simp only [go_sem, reduceIte, reduceCtorEq, Nat.reduceAdd, Nat.reduceMul, Nat.reduceSub, Nat.reduceDiv, Nat.reduceMod, Nat.reduceLeDiff, Nat.reduceEqDiff, Nat.reduceBEq, Nat.reduceBNe, Int.reduceBEq, Int.reduceBNe, Int.reduceAdd, Int.reduceSub, Int.reduceMul, Int.reduceLE, Int.reduceLT, Int.reduceEq, Int.reduceNeg, Int.reduceToNat, Nat.reduceLT]
    repeat (refine And.intro (by first | omega | (unfold inI64; omega) | (simp only [u8min, u8max, u16min, u16max, u32min, u32max]; omega)) ?_)
    by_cases he : l.getD i (0, 0, []) = l'.getD i (0, 0, [])
    · rw [decide_eq_true he] at hs
      refine CallC.os hs [] ?_
      rintro v ρ' ⟨rfl, rfl⟩
      simp only [go_sem, reduceIte, reduceCtorEq, Nat.reduceAdd, Nat.reduceMul, Nat.reduceSub, Nat.reduceDiv, Nat.reduceMod, Nat.reduceLeDiff, Nat.reduceEqDiff, Nat.reduceBEq, Nat.reduceBNe, Int.reduceBEq, Int.reduceBNe, Int.reduceAdd, Int.reduceSub, Int.reduceMul, Int.reduceLE, Int.reduceLT, Int.reduceEq, Int.reduceNeg, Int.reduceToNat, Nat.reduceLT]
      repeat (refine And.intro (by first | omega | (unfold inI64; omega) | (simp only [u8min, u8max, u16min, u16max, u32min, u32max]; omega)) ?_)
      exact ⟨i + 1, ⟨by omega, take_eqs hc' (by omega) ht he⟩, by omega, Weak.b [] 0⟩
    · obtain rfl : b = false := by rw [← hb]; exact decide_eq_false fun h => he (getD_eqs h)
      rw [decide_eq_false he] at hs
      refine CallC.os hs [] ?_
      rintro v ρ' ⟨rfl, rfl⟩
      simp only [go_sem, reduceIte, reduceCtorEq, Nat.reduceAdd, Nat.reduceMul, Nat.reduceSub, Nat.reduceDiv, Nat.reduceMod, Nat.reduceLeDiff, Nat.reduceEqDiff, Nat.reduceBEq, Nat.reduceBNe, Int.reduceBEq, Int.reduceBNe, Int.reduceAdd, Int.reduceSub, Int.reduceMul, Int.reduceLE, Int.reduceLT, Int.reduceEq, Int.reduceNeg, Int.reduceToNat, Nat.reduceLT]
      refine RetC.bk [] ⟨rfl, rfl⟩
  · simp only [decide_eq_false_iff_not] at hc
    obtain rfl : i = l.length := by omega
    obtain rfl : b = true := by
      rw [← hb]
      rw [List.take_length, hn, List.take_length] at ht
      exact decide_eq_true ht
    simp only [go_sem, reduceIte, reduceCtorEq, Nat.reduceAdd, Nat.reduceMul, Nat.reduceSub, Nat.reduceDiv, Nat.reduceMod, Nat.reduceLeDiff, Nat.reduceEqDiff, Nat.reduceBEq, Nat.reduceBNe, Int.reduceBEq, Int.reduceBNe, Int.reduceAdd, Int.reduceSub, Int.reduceMul, Int.reduceLE, Int.reduceLT, Int.reduceEq, Int.reduceNeg, Int.reduceToNat, Nat.reduceLT]
    refine RetC.bk [] ⟨rfl, rfl⟩
/-- Lists that may be looked through. -/
structure Ent.Fine (e : Ent) : Prop where
  m : e.m.length ≤ 1000000
  l : e.l.length ≤ 1000000
  y : e.y.length ≤ 1000000
  q : e.q.length ≤ 1000000
  z : ∀ x ∈ e.q, x.2.2.length ≤ 1000000
set_option maxHeartbeats 16000000 in
theorem sp_same (e f : Ent) (he : e.Byts) (hf : f.Byts) (hz : e.Fine) : FSpec Try.prog 19 [e.V, f.V] [] (fun v ρ' => (∃ b, v = bV b ∧ (b = true ↔ e = f)) ∧ ρ' = []) := by
  have so := sp_beq e.o f.o he.1 hf.1
  have sw := sp_beq e.w f.w he.2 hf.2
  have sm := sp_equalM e.m f.m hz.m
  have sl := sp_equalL e.l f.l hz.l
  have sy := sp_equalD e.y f.y hz.y
  have sq := sp_equalO e.q f.q hz.q hz.z
  refine FSpec.of follow Try.func19 c19 (Nat.le_of_ble_eq_true rfl) fun hff => ?_
  by_cases hk : e.k = f.k
  case neg =>
    have kk : (e.k == f.k) = false := by simpa using hk
    simp only [sc19, Ent.cells, kk, go_sem, reduceIte, reduceCtorEq, Nat.reduceAdd, Nat.reduceMul, Nat.reduceSub, Nat.reduceDiv, Nat.reduceMod, Nat.reduceLeDiff, Nat.reduceEqDiff, Nat.reduceBEq, Nat.reduceBNe, Int.reduceBEq, Int.reduceBNe, Int.reduceAdd, Int.reduceSub, Int.reduceMul, Int.reduceLE, Int.reduceLT, Int.reduceEq, Int.reduceNeg, Int.reduceToNat, Nat.reduceLT]
    refine RetC.bk [] ⟨⟨false, rfl, iff_of_false (by decide) fun h => hk (by rw [h])⟩, rfl⟩
  have kk : (e.k == f.k) = true := by simpa using hk
  by_cases ht : e.t = f.t
  case neg =>
    have kt : (e.t == f.t) = false := by simpa using ht
    simp only [sc19, Ent.cells, kk, kt, go_sem, reduceIte, reduceCtorEq, Nat.reduceAdd, Nat.reduceMul, Nat.reduceSub, Nat.reduceDiv, Nat.reduceMod, Nat.reduceLeDiff, Nat.reduceEqDiff, Nat.reduceBEq, Nat.reduceBNe, Int.reduceBEq, Int.reduceBNe, Int.reduceAdd, Int.reduceSub, Int.reduceMul, Int.reduceLE, Int.reduceLT, Int.reduceEq, Int.reduceNeg, Int.reduceToNat, Nat.reduceLT]
    refine RetC.bk [] ⟨⟨false, rfl, iff_of_false (by decide) fun h => ht (by rw [h])⟩, rfl⟩
  have kt : (e.t == f.t) = true := by simpa using ht
  by_cases hu : e.u = f.u
  case neg =>
    have ku : (e.u == f.u) = false := by simpa using hu
    simp only [sc19, Ent.cells, kk, kt, ku, go_sem, reduceIte, reduceCtorEq, Nat.reduceAdd, Nat.reduceMul, Nat.reduceSub, Nat.reduceDiv, Nat.reduceMod, Nat.reduceLeDiff, Nat.reduceEqDiff, Nat.reduceBEq, Nat.reduceBNe, Int.reduceBEq, Int.reduceBNe, Int.reduceAdd, Int.reduceSub, Int.reduceMul, Int.reduceLE, Int.reduceLT, Int.reduceEq, Int.reduceNeg, Int.reduceToNat, Nat.reduceLT]
    refine RetC.bk [] ⟨⟨false, rfl, iff_of_false (by decide) fun h => hu (by rw [h])⟩, rfl⟩
  have ku : (e.u == f.u) = true := by simpa using hu
  by_cases hh : e.h = f.h
  case neg =>
    have kh : (e.h == f.h) = false := by simpa using hh
    simp only [sc19, Ent.cells, kk, kt, ku, kh, go_sem, reduceIte, reduceCtorEq, Nat.reduceAdd, Nat.reduceMul, Nat.reduceSub, Nat.reduceDiv, Nat.reduceMod, Nat.reduceLeDiff, Nat.reduceEqDiff, Nat.reduceBEq, Nat.reduceBNe, Int.reduceBEq, Int.reduceBNe, Int.reduceAdd, Int.reduceSub, Int.reduceMul, Int.reduceLE, Int.reduceLT, Int.reduceEq, Int.reduceNeg, Int.reduceToNat, Nat.reduceLT]
    refine RetC.bk [] ⟨⟨false, rfl, iff_of_false (by decide) fun h => hh (by rw [h])⟩, rfl⟩
  have kh : (e.h == f.h) = true := by simpa using hh
  by_cases hp : e.p = f.p
  case neg =>
    have kp : (e.p == f.p) = false := by simpa using hp
    simp only [sc19, Ent.cells, kk, kt, ku, kh, kp, go_sem, reduceIte, reduceCtorEq, Nat.reduceAdd, Nat.reduceMul, Nat.reduceSub, Nat.reduceDiv, Nat.reduceMod, Nat.reduceLeDiff, Nat.reduceEqDiff, Nat.reduceBEq, Nat.reduceBNe, Int.reduceBEq, Int.reduceBNe, Int.reduceAdd, Int.reduceSub, Int.reduceMul, Int.reduceLE, Int.reduceLT, Int.reduceEq, Int.reduceNeg, Int.reduceToNat, Nat.reduceLT]
    refine RetC.bk [] ⟨⟨false, rfl, iff_of_false (by decide) fun h => hp (by rw [h])⟩, rfl⟩
  have kp : (e.p == f.p) = true := by simpa using hp
  by_cases hn : e.n = f.n
  case neg =>
    have kn : (e.n == f.n) = false := by simpa using hn
    simp only [sc19, Ent.cells, kk, kt, ku, kh, kp, kn, go_sem, reduceIte, reduceCtorEq, Nat.reduceAdd, Nat.reduceMul, Nat.reduceSub, Nat.reduceDiv, Nat.reduceMod, Nat.reduceLeDiff, Nat.reduceEqDiff, Nat.reduceBEq, Nat.reduceBNe, Int.reduceBEq, Int.reduceBNe, Int.reduceAdd, Int.reduceSub, Int.reduceMul, Int.reduceLE, Int.reduceLT, Int.reduceEq, Int.reduceNeg, Int.reduceToNat, Nat.reduceLT]
    refine RetC.bk [] ⟨⟨false, rfl, iff_of_false (by decide) fun h => hn (by rw [h])⟩, rfl⟩
  have kn : (e.n == f.n) = true := by simpa using hn
  by_cases ha : e.a = f.a ∧ e.b = f.b
  case neg =>
    have ka : (e.a == f.a && e.b == f.b) = false := by
      rw [Bool.eq_false_iff]; intro h; simp only [Bool.and_eq_true, beq_iff_eq] at h; exact ha h
    simp only [sc19, Ent.cells, kk, kt, ku, kh, kp, kn, ka, go_sem, reduceIte, reduceCtorEq, Nat.reduceAdd, Nat.reduceMul, Nat.reduceSub, Nat.reduceDiv, Nat.reduceMod, Nat.reduceLeDiff, Nat.reduceEqDiff, Nat.reduceBEq, Nat.reduceBNe, Int.reduceBEq, Int.reduceBNe, Int.reduceAdd, Int.reduceSub, Int.reduceMul, Int.reduceLE, Int.reduceLT, Int.reduceEq, Int.reduceNeg, Int.reduceToNat, Nat.reduceLT]
    refine RetC.bk [] ⟨⟨false, rfl, iff_of_false (by decide) fun h => ha (by rw [h]; exact ⟨rfl, rfl⟩)⟩, rfl⟩
  have ka : (e.a == f.a && e.b == f.b) = true := by simp [ha.1, ha.2]
  by_cases hc : e.c = f.c ∧ e.d = f.d
  case neg =>
    have kc : (e.c == f.c && e.d == f.d) = false := by
      rw [Bool.eq_false_iff]; intro h; simp only [Bool.and_eq_true, beq_iff_eq] at h; exact hc h
    simp only [sc19, Ent.cells, kk, kt, ku, kh, kp, kn, ka, kc, go_sem, reduceIte, reduceCtorEq, Nat.reduceAdd, Nat.reduceMul, Nat.reduceSub, Nat.reduceDiv, Nat.reduceMod, Nat.reduceLeDiff, Nat.reduceEqDiff, Nat.reduceBEq, Nat.reduceBNe, Int.reduceBEq, Int.reduceBNe, Int.reduceAdd, Int.reduceSub, Int.reduceMul, Int.reduceLE, Int.reduceLT, Int.reduceEq, Int.reduceNeg, Int.reduceToNat, Nat.reduceLT]
    refine RetC.bk [] ⟨⟨false, rfl, iff_of_false (by decide) fun h => hc (by rw [h]; exact ⟨rfl, rfl⟩)⟩, rfl⟩
  have kc : (e.c == f.c && e.d == f.d) = true := by simp [hc.1, hc.2]
  simp only [sc19, Ent.cells, kk, kt, ku, kh, kp, kn, ka, kc, go_sem, reduceIte, reduceCtorEq, Nat.reduceAdd, Nat.reduceMul, Nat.reduceSub, Nat.reduceDiv, Nat.reduceMod, Nat.reduceLeDiff, Nat.reduceEqDiff, Nat.reduceBEq, Nat.reduceBNe, Int.reduceBEq, Int.reduceBNe, Int.reduceAdd, Int.reduceSub, Int.reduceMul, Int.reduceLE, Int.reduceLT, Int.reduceEq, Int.reduceNeg, Int.reduceToNat, Nat.reduceLT]
  by_cases ho : e.o = f.o
  case neg =>
    rw [decide_eq_false ho] at so
    refine CallC.os so [] ?_
    rintro v ρ' ⟨rfl, rfl⟩
    simp only [go_sem, reduceIte, reduceCtorEq, Nat.reduceAdd, Nat.reduceMul, Nat.reduceSub, Nat.reduceDiv, Nat.reduceMod, Nat.reduceLeDiff, Nat.reduceEqDiff, Nat.reduceBEq, Nat.reduceBNe, Int.reduceBEq, Int.reduceBNe, Int.reduceAdd, Int.reduceSub, Int.reduceMul, Int.reduceLE, Int.reduceLT, Int.reduceEq, Int.reduceNeg, Int.reduceToNat, Nat.reduceLT]
    refine RetC.bk [] ⟨⟨false, rfl, iff_of_false (by decide) fun h => ho (by rw [h])⟩, rfl⟩
  rw [decide_eq_true ho] at so
  refine CallC.os so [] ?_
  rintro v ρ' ⟨rfl, rfl⟩
  simp only [go_sem, reduceIte, reduceCtorEq, Nat.reduceAdd, Nat.reduceMul, Nat.reduceSub, Nat.reduceDiv, Nat.reduceMod, Nat.reduceLeDiff, Nat.reduceEqDiff, Nat.reduceBEq, Nat.reduceBNe, Int.reduceBEq, Int.reduceBNe, Int.reduceAdd, Int.reduceSub, Int.reduceMul, Int.reduceLE, Int.reduceLT, Int.reduceEq, Int.reduceNeg, Int.reduceToNat, Nat.reduceLT]
  by_cases hw : e.w = f.w
  case neg =>
    rw [decide_eq_false hw] at sw
    refine CallC.os sw [] ?_
    rintro v ρ' ⟨rfl, rfl⟩
    simp only [go_sem, reduceIte, reduceCtorEq, Nat.reduceAdd, Nat.reduceMul, Nat.reduceSub, Nat.reduceDiv, Nat.reduceMod, Nat.reduceLeDiff, Nat.reduceEqDiff, Nat.reduceBEq, Nat.reduceBNe, Int.reduceBEq, Int.reduceBNe, Int.reduceAdd, Int.reduceSub, Int.reduceMul, Int.reduceLE, Int.reduceLT, Int.reduceEq, Int.reduceNeg, Int.reduceToNat, Nat.reduceLT]
    refine RetC.bk [] ⟨⟨false, rfl, iff_of_false (by decide) fun h => hw (by rw [h])⟩, rfl⟩
  rw [decide_eq_true hw] at sw
  refine CallC.os sw [] ?_
  rintro v ρ' ⟨rfl, rfl⟩
  simp only [go_sem, reduceIte, reduceCtorEq, Nat.reduceAdd, Nat.reduceMul, Nat.reduceSub, Nat.reduceDiv, Nat.reduceMod, Nat.reduceLeDiff, Nat.reduceEqDiff, Nat.reduceBEq, Nat.reduceBNe, Int.reduceBEq, Int.reduceBNe, Int.reduceAdd, Int.reduceSub, Int.reduceMul, Int.reduceLE, Int.reduceLT, Int.reduceEq, Int.reduceNeg, Int.reduceToNat, Nat.reduceLT]
  by_cases hm : e.m = f.m
  case neg =>
    rw [decide_eq_false hm] at sm
    refine CallC.os sm [] ?_
    rintro v ρ' ⟨rfl, rfl⟩
    simp only [go_sem, reduceIte, reduceCtorEq, Nat.reduceAdd, Nat.reduceMul, Nat.reduceSub, Nat.reduceDiv, Nat.reduceMod, Nat.reduceLeDiff, Nat.reduceEqDiff, Nat.reduceBEq, Nat.reduceBNe, Int.reduceBEq, Int.reduceBNe, Int.reduceAdd, Int.reduceSub, Int.reduceMul, Int.reduceLE, Int.reduceLT, Int.reduceEq, Int.reduceNeg, Int.reduceToNat, Nat.reduceLT]
    refine RetC.bk [] ⟨⟨false, rfl, iff_of_false (by decide) fun h => hm (by rw [h])⟩, rfl⟩
  rw [decide_eq_true hm] at sm
  refine CallC.os sm [] ?_
  rintro v ρ' ⟨rfl, rfl⟩
  simp only [go_sem, reduceIte, reduceCtorEq, Nat.reduceAdd, Nat.reduceMul, Nat.reduceSub, Nat.reduceDiv, Nat.reduceMod, Nat.reduceLeDiff, Nat.reduceEqDiff, Nat.reduceBEq, Nat.reduceBNe, Int.reduceBEq, Int.reduceBNe, Int.reduceAdd, Int.reduceSub, Int.reduceMul, Int.reduceLE, Int.reduceLT, Int.reduceEq, Int.reduceNeg, Int.reduceToNat, Nat.reduceLT]
  by_cases hl : e.l = f.l
  case neg =>
    rw [decide_eq_false hl] at sl
    refine CallC.os sl [] ?_
    rintro v ρ' ⟨rfl, rfl⟩
    simp only [go_sem, reduceIte, reduceCtorEq, Nat.reduceAdd, Nat.reduceMul, Nat.reduceSub, Nat.reduceDiv, Nat.reduceMod, Nat.reduceLeDiff, Nat.reduceEqDiff, Nat.reduceBEq, Nat.reduceBNe, Int.reduceBEq, Int.reduceBNe, Int.reduceAdd, Int.reduceSub, Int.reduceMul, Int.reduceLE, Int.reduceLT, Int.reduceEq, Int.reduceNeg, Int.reduceToNat, Nat.reduceLT]
    refine RetC.bk [] ⟨⟨false, rfl, iff_of_false (by decide) fun h => hl (by rw [h])⟩, rfl⟩
  rw [decide_eq_true hl] at sl
  refine CallC.os sl [] ?_
  rintro v ρ' ⟨rfl, rfl⟩
  simp only [go_sem, reduceIte, reduceCtorEq, Nat.reduceAdd, Nat.reduceMul, Nat.reduceSub, Nat.reduceDiv, Nat.reduceMod, Nat.reduceLeDiff, Nat.reduceEqDiff, Nat.reduceBEq, Nat.reduceBNe, Int.reduceBEq, Int.reduceBNe, Int.reduceAdd, Int.reduceSub, Int.reduceMul, Int.reduceLE, Int.reduceLT, Int.reduceEq, Int.reduceNeg, Int.reduceToNat, Nat.reduceLT]
  by_cases hy : e.y = f.y
  case neg =>
    rw [decide_eq_false hy] at sy
    refine CallC.os sy [] ?_
    rintro v ρ' ⟨rfl, rfl⟩
    simp only [go_sem, reduceIte, reduceCtorEq, Nat.reduceAdd, Nat.reduceMul, Nat.reduceSub, Nat.reduceDiv, Nat.reduceMod, Nat.reduceLeDiff, Nat.reduceEqDiff, Nat.reduceBEq, Nat.reduceBNe, Int.reduceBEq, Int.reduceBNe, Int.reduceAdd, Int.reduceSub, Int.reduceMul, Int.reduceLE, Int.reduceLT, Int.reduceEq, Int.reduceNeg, Int.reduceToNat, Nat.reduceLT]
    refine RetC.bk [] ⟨⟨false, rfl, iff_of_false (by decide) fun h => hy (by rw [h])⟩, rfl⟩
  rw [decide_eq_true hy] at sy
  refine CallC.os sy [] ?_
  rintro v ρ' ⟨rfl, rfl⟩
  simp only [go_sem, reduceIte, reduceCtorEq, Nat.reduceAdd, Nat.reduceMul, Nat.reduceSub, Nat.reduceDiv, Nat.reduceMod, Nat.reduceLeDiff, Nat.reduceEqDiff, Nat.reduceBEq, Nat.reduceBNe, Int.reduceBEq, Int.reduceBNe, Int.reduceAdd, Int.reduceSub, Int.reduceMul, Int.reduceLE, Int.reduceLT, Int.reduceEq, Int.reduceNeg, Int.reduceToNat, Nat.reduceLT]
  by_cases hq : e.q = f.q
  case neg =>
    rw [decide_eq_false hq] at sq
    refine CallC.os sq [] ?_
    rintro v ρ' ⟨rfl, rfl⟩
    simp only [go_sem, reduceIte, reduceCtorEq, Nat.reduceAdd, Nat.reduceMul, Nat.reduceSub, Nat.reduceDiv, Nat.reduceMod, Nat.reduceLeDiff, Nat.reduceEqDiff, Nat.reduceBEq, Nat.reduceBNe, Int.reduceBEq, Int.reduceBNe, Int.reduceAdd, Int.reduceSub, Int.reduceMul, Int.reduceLE, Int.reduceLT, Int.reduceEq, Int.reduceNeg, Int.reduceToNat, Nat.reduceLT]
    refine RetC.bk [] ⟨⟨false, rfl, iff_of_false (by decide) fun h => hq (by rw [h])⟩, rfl⟩
  rw [decide_eq_true hq] at sq
  refine CallC.os sq [] ?_
  rintro v ρ' ⟨rfl, rfl⟩
  simp only [go_sem, reduceIte, reduceCtorEq, Nat.reduceAdd, Nat.reduceMul, Nat.reduceSub, Nat.reduceDiv, Nat.reduceMod, Nat.reduceLeDiff, Nat.reduceEqDiff, Nat.reduceBEq, Nat.reduceBNe, Int.reduceBEq, Int.reduceBNe, Int.reduceAdd, Int.reduceSub, Int.reduceMul, Int.reduceLE, Int.reduceLT, Int.reduceEq, Int.reduceNeg, Int.reduceToNat, Nat.reduceLT]
  refine RetC.back [] ⟨⟨true, rfl, iff_of_true rfl ?_⟩, rfl⟩ ⟨rfl, rfl, ?_, ?_, trivial, rfl⟩
  · obtain ⟨⟩ := e
    obtain ⟨⟩ := f
    simp only at *
    simp only [Ent.mk.injEq]
    exact ⟨hk, ht, hu, hh, hp, hn, ha.1, ha.2, hc.1, hc.2, ho, hw, hm, hl, hy, hq⟩
  all_goals repeat' (first | exact trivial | exact rfl | exact Or.inl rfl | exact slotW_ren _ | exact cvW_ren _ | exact cvsW_ren _ | exact Nat.le_refl _ | exact slotW_frz rfl (Nat.le_refl _) | exact slotW_nil (Nat.le_of_ble_eq_true rfl) | exact cvW_frz rfl (Nat.le_refl _) | exact cvW_nil (Nat.le_of_ble_eq_true rfl) | exact Or.inl fun _ _ => rfl | exact fun _ _ => rfl | exact Nat.le_of_ble_eq_true rfl | refine ⟨Or.inl ⟨Nat.le_of_ble_eq_true rfl, ?_⟩, ?_⟩ | refine ⟨Or.inr ⟨Nat.le_of_ble_eq_true rfl, Nat.le_of_ble_eq_true rfl, Nat.le_of_ble_eq_true rfl⟩, ?_⟩ | exact Or.inr ⟨rfl, rfl, rfl, rfl, Nat.le_of_ble_eq_true rfl, Nat.le_of_ble_eq_true rfl, Nat.le_of_ble_eq_true rfl⟩ | refine ⟨?_, ?_⟩)
end Go.Proofs.Ytbhefgajgdcajaa

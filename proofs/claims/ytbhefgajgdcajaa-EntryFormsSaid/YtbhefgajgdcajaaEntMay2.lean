/- Which lists may be. -/
import Derived.Test.YtbhefgajgdcajaaSxShort
import Derived.Test.YtbhefgajgdcajaaEntMay
set_option linter.unusedVariables false
set_option linter.unusedSimpArgs false
namespace Go.Proofs.Ytbhefgajgdcajaa
open Sx
attribute [local go_sem] wpC_skip wpC_reg wpC_draw wpC_seq wpC_block wpC_cond wpC_loop wpC_exit wpC_join joinK_n joinK_e joinK_r wpC_ret seqK_n seqK_e seqK_r blockK_n blockK_e blockK_r Fs_nil Fs_none Fs_some stepS_eq Fc_nil Fc_none Fc_some stepC_eq opFn ev cval lk need SV.nm enumR setS setR setRs cellsOf svOf rget spliceC rset src oint eqCells cvs fillC rows ints svDest keyOf2 ridC widens ibool icalc ibin List.replicate List.getD_cons_zero List.getD_cons_succ List.getD_nil List.set_cons_zero List.set_cons_succ List.map_cons List.map_nil List.foldl_cons List.foldl_nil List.length_cons List.length_nil List.drop_zero List.drop_succ_cons List.drop_nil List.take_succ_cons List.take_zero List.take_nil List.cons_append List.nil_append List.append_nil List.headD_cons List.flatten_cons List.flatten_nil Option.map_some Option.map_none Option.getD_none Option.getD_some true_and and_true Nat.zero_add Nat.add_zero appFn svRoom sameO beq_self_eq_true Nat.zero_mul Nat.mul_zero Nat.sub_zero Nat.zero_le Nat.le_refl and_self okB Bool.not_false Bool.true_or Bool.false_or Bool.not_true List.all_nil List.all_cons Int.toNat_zero Int.toNat_one CondC_true CondC_false beq_true beq_false opEn callEn skipEn slotsOf tmpsOf SOp.operands oo free disj List.contains_cons List.contains_nil Option.toList_some Option.toList_none Bool.and_true Bool.true_and Bool.or_false Bool.or_true Bool.and_self Bool.and_false Bool.false_and decide_true decide_false List.range'_succ List.range'_zero Int.toNat_natCast Int.natCast_nonneg Int.cast_ofNat_Int ne_eq not_false_eq_true updGiven updNew getR muOf nuOf owned isRo List.range.loop List.filter SV.ren CV.ren CV.renL SV.renL Res.ren List.length List.idxOf? List.findIdx? List.findIdx?.go slotsW slotW disB List.range
set_option maxRecDepth 100000

theorem sp_eachMC (x : Mv) : FSpec Try.prog 84 [.agg [iC x.1, iC x.2.1, iC x.2.2.1, iC x.2.2.2], .cv (.ptr 0 0 0 0)] [.cells [.fn (.func 44) [] []]] (fun v ρ' => v = bV (!decide (fitM x)) ∧ ρ' = [.cells [.fn (.func 44) [] []]]) := by
  refine FSpec.of follow Try.func84 c84 (Nat.le_of_ble_eq_true rfl) fun hf => ?_
  simp only [sc84, go_sem, reduceIte, reduceCtorEq, Nat.reduceAdd, Nat.reduceMul, Nat.reduceSub, Nat.reduceDiv, Nat.reduceMod, Nat.reduceLeDiff, Nat.reduceEqDiff, Nat.reduceBEq, Nat.reduceBNe, Int.reduceBEq, Int.reduceBNe, Int.reduceAdd, Int.reduceSub, Int.reduceMul, Int.reduceLE, Int.reduceLT, Int.reduceEq, Int.reduceNeg, Int.reduceToNat, Nat.reduceLT]
  refine CallC.os (sp_moveF x) [] ?_
  rintro v ρ' ⟨rfl, rfl⟩
  simp only [go_sem, reduceIte, reduceCtorEq, Nat.reduceAdd, Nat.reduceMul, Nat.reduceSub, Nat.reduceDiv, Nat.reduceMod, Nat.reduceLeDiff, Nat.reduceEqDiff, Nat.reduceBEq, Nat.reduceBNe, Int.reduceBEq, Int.reduceBNe, Int.reduceAdd, Int.reduceSub, Int.reduceMul, Int.reduceLE, Int.reduceLT, Int.reduceEq, Int.reduceNeg, Int.reduceToNat, Nat.reduceLT]
  refine RetC.bk [] ⟨rfl, rfl⟩

set_option maxHeartbeats 4000000 in
theorem sp_indexM (l : List Mv) (hlen : l.length ≤ 100) : FSpec Try.prog 93 [.cv (mvS l), .cv (.fn (.func 84) [] [.ptr 0 0 0 0])] [.cells [.fn (.func 44) [] []]] (fun v ρ' => (∃ r, v = iV r ∧ (r ≥ 0 ↔ ¬ ∀ x ∈ l, fitM x)) ∧ ρ' = [.cells [.fn (.func 44) [] []]]) := by
  refine FSpec.of follow Try.func93 c93 (Nat.le_of_ble_eq_true rfl) fun hf => ?_
  simp only [sc93, go_sem, reduceIte, reduceCtorEq, Nat.reduceAdd, Nat.reduceMul, Nat.reduceSub, Nat.reduceDiv, Nat.reduceMod, Nat.reduceLeDiff, Nat.reduceEqDiff, Nat.reduceBEq, Nat.reduceBNe, Int.reduceBEq, Int.reduceBNe, Int.reduceAdd, Int.reduceSub, Int.reduceMul, Int.reduceLE, Int.reduceLT, Int.reduceEq, Int.reduceNeg, Int.reduceToNat, Nat.reduceLT]
  refine LoopC.inv follow (fun i : Nat => ⟨mkSl 19 [(0, .cv (mvS l)), (1, .cv (.fn (.func 84) [] [.ptr 0 0 0 0])), (7, iV l.length), (8, iV i)], [(0, .cells [.fn (.func 44) [] []])], 1⟩)
    (fun i => i ≤ l.length ∧ ∀ x ∈ l.take i, fitM x) (fun i => l.length - i) 0 ⟨Nat.zero_le _, fun x hx => by cases hx⟩ (Weak.b [0] 0) ?_
  rintro i ⟨hi, hl⟩
  simp only [mkSl, go_sem, reduceIte, reduceCtorEq, Nat.reduceAdd, Nat.reduceMul, Nat.reduceSub, Nat.reduceDiv, Nat.reduceMod, Nat.reduceLeDiff, Nat.reduceEqDiff, Nat.reduceBEq, Nat.reduceBNe, Int.reduceBEq, Int.reduceBNe, Int.reduceAdd, Int.reduceSub, Int.reduceMul, Int.reduceLE, Int.reduceLT, Int.reduceEq, Int.reduceNeg, Int.reduceToNat, Nat.reduceLT]
  refine CondC.of (fun hc => ?_) (fun hc => ?_)
  · simp only [decide_eq_true_eq] at hc
    have hc' : i < l.length := by omega
    have hi2 : inI64 ((i : Int) + 1) := by constructor <;> omega
    simp only [go_sem, reduceIte, reduceCtorEq, Nat.reduceAdd, Nat.reduceMul, Nat.reduceSub, Nat.reduceDiv, Nat.reduceMod, Nat.reduceLeDiff, Nat.reduceEqDiff, Nat.reduceBEq, Nat.reduceBNe, Int.reduceBEq, Int.reduceBNe, Int.reduceAdd, Int.reduceSub, Int.reduceMul, Int.reduceLE, Int.reduceLT, Int.reduceEq, Int.reduceNeg, Int.reduceToNat, Nat.reduceLT]
    repeat (refine And.intro (by first | omega | (unfold inI64; omega) | (simp only [u8min, u8max, u16min, u16max, u32min, u32max]; omega)) ?_)
    have hs := sp_eachMC (l.getD i (0, 0, 0, 0))
    by_cases h : fitM (l.getD i (0, 0, 0, 0))
    · rw [decide_eq_true h] at hs
      refine CallC.os hs [0] ?_
      rintro v ρ' ⟨rfl, rfl⟩
      simp only [Bool.not_true, go_sem, reduceIte, reduceCtorEq, Nat.reduceAdd, Nat.reduceMul, Nat.reduceSub, Nat.reduceDiv, Nat.reduceMod, Nat.reduceLeDiff, Nat.reduceEqDiff, Nat.reduceBEq, Nat.reduceBNe, Int.reduceBEq, Int.reduceBNe, Int.reduceAdd, Int.reduceSub, Int.reduceMul, Int.reduceLE, Int.reduceLT, Int.reduceEq, Int.reduceNeg, Int.reduceToNat, Nat.reduceLT]
      repeat (refine And.intro (by first | omega | (unfold inI64; omega) | (simp only [u8min, u8max, u16min, u16max, u32min, u32max]; omega)) ?_)
      exact ⟨i + 1, ⟨by omega, all_take hc' hl h⟩, by omega, Weak.b [0] 0⟩
    · rw [decide_eq_false h] at hs
      refine CallC.os hs [0] ?_
      rintro v ρ' ⟨rfl, rfl⟩
      simp only [Bool.not_false, go_sem, reduceIte, reduceCtorEq, Nat.reduceAdd, Nat.reduceMul, Nat.reduceSub, Nat.reduceDiv, Nat.reduceMod, Nat.reduceLeDiff, Nat.reduceEqDiff, Nat.reduceBEq, Nat.reduceBNe, Int.reduceBEq, Int.reduceBNe, Int.reduceAdd, Int.reduceSub, Int.reduceMul, Int.reduceLE, Int.reduceLT, Int.reduceEq, Int.reduceNeg, Int.reduceToNat, Nat.reduceLT]
      refine RetC.bk [] ⟨⟨i, rfl, iff_of_true (by omega) fun h' => h (h' _ (getD_mem hc' _))⟩, rfl⟩
  · simp only [decide_eq_false_iff_not] at hc
    obtain rfl : i = l.length := by omega
    rw [List.take_length] at hl
    simp only [go_sem, reduceIte, reduceCtorEq, Nat.reduceAdd, Nat.reduceMul, Nat.reduceSub, Nat.reduceDiv, Nat.reduceMod, Nat.reduceLeDiff, Nat.reduceEqDiff, Nat.reduceBEq, Nat.reduceBNe, Int.reduceBEq, Int.reduceBNe, Int.reduceAdd, Int.reduceSub, Int.reduceMul, Int.reduceLE, Int.reduceLT, Int.reduceEq, Int.reduceNeg, Int.reduceToNat, Nat.reduceLT]
    refine RetC.bk [] ⟨⟨-1, rfl, iff_of_false (by decide) fun h => h hl⟩, rfl⟩

theorem sp_containsM (l : List Mv) (hlen : l.length ≤ 100) : FSpec Try.prog 83 [.cv (mvS l), .cv (.fn (.func 84) [] [.ptr 0 0 0 0])] [.cells [.fn (.func 44) [] []]] (fun v ρ' => v = bV (!decide (∀ x ∈ l, fitM x)) ∧ ρ' = [.cells [.fn (.func 44) [] []]]) := by
  refine FSpec.of follow Try.func83 c83 (Nat.le_of_ble_eq_true rfl) fun hf => ?_
  simp only [sc83, go_sem, reduceIte, reduceCtorEq, Nat.reduceAdd, Nat.reduceMul, Nat.reduceSub, Nat.reduceDiv, Nat.reduceMod, Nat.reduceLeDiff, Nat.reduceEqDiff, Nat.reduceBEq, Nat.reduceBNe, Int.reduceBEq, Int.reduceBNe, Int.reduceAdd, Int.reduceSub, Int.reduceMul, Int.reduceLE, Int.reduceLT, Int.reduceEq, Int.reduceNeg, Int.reduceToNat, Nat.reduceLT]
  refine CallC.os (sp_indexM l hlen) [0] ?_
  rintro v ρ' ⟨⟨r, rfl, hr⟩, rfl⟩
  have e : decide (r ≥ 0) = !decide (∀ x ∈ l, fitM x) := by
    by_cases h : ∀ x ∈ l, fitM x
    · rw [decide_eq_true h, decide_eq_false fun h' => hr.1 h' h]; rfl
    · rw [decide_eq_false h, decide_eq_true (hr.2 h)]; rfl
  simp only [e, go_sem, reduceIte, reduceCtorEq, Nat.reduceAdd, Nat.reduceMul, Nat.reduceSub, Nat.reduceDiv, Nat.reduceMod, Nat.reduceLeDiff, Nat.reduceEqDiff, Nat.reduceBEq, Nat.reduceBNe, Int.reduceBEq, Int.reduceBNe, Int.reduceAdd, Int.reduceSub, Int.reduceMul, Int.reduceLE, Int.reduceLT, Int.reduceEq, Int.reduceNeg, Int.reduceToNat, Nat.reduceLT]
  refine RetC.bk [] ⟨rfl, rfl⟩

theorem sp_eachM (l : List Mv) : FSpec Try.prog 43 [.cv (mvS l), .cv (.fn (.func 44) [] [])] [] (fun v ρ' => v = bV (decide (each fitM l)) ∧ ρ' = []) := by
  refine FSpec.of follow Try.func43 c43 (Nat.le_of_ble_eq_true rfl) fun hf => ?_
  by_cases h : l.length ≤ 40
  · have e1 : decide ((l.length : Int) ≤ 40) = true := decide_eq_true (by omega)
    have e : decide (each fitM l) = decide (∀ x ∈ l, fitM x) := dec_and h
    rw [e]
    simp only [sc43, e1, go_sem, reduceIte, reduceCtorEq, Nat.reduceAdd, Nat.reduceMul, Nat.reduceSub, Nat.reduceDiv, Nat.reduceMod, Nat.reduceLeDiff, Nat.reduceEqDiff, Nat.reduceBEq, Nat.reduceBNe, Int.reduceBEq, Int.reduceBNe, Int.reduceAdd, Int.reduceSub, Int.reduceMul, Int.reduceLE, Int.reduceLT, Int.reduceEq, Int.reduceNeg, Int.reduceToNat, Nat.reduceLT]
    refine CallC.os (sp_containsM l (by omega)) [0] ?_
    rintro v ρ' ⟨rfl, rfl⟩
    simp only [Bool.not_not, go_sem, reduceIte, reduceCtorEq, Nat.reduceAdd, Nat.reduceMul, Nat.reduceSub, Nat.reduceDiv, Nat.reduceMod, Nat.reduceLeDiff, Nat.reduceEqDiff, Nat.reduceBEq, Nat.reduceBNe, Int.reduceBEq, Int.reduceBNe, Int.reduceAdd, Int.reduceSub, Int.reduceMul, Int.reduceLE, Int.reduceLT, Int.reduceEq, Int.reduceNeg, Int.reduceToNat, Nat.reduceLT]
    refine RetC.bk [] ⟨rfl, rfl⟩
  · have e1 : decide ((l.length : Int) ≤ 40) = false := decide_eq_false (by omega)
    have e : decide (each fitM l) = false := dec_and_f h
    rw [e]
    simp only [sc43, e1, go_sem, reduceIte, reduceCtorEq, Nat.reduceAdd, Nat.reduceMul, Nat.reduceSub, Nat.reduceDiv, Nat.reduceMod, Nat.reduceLeDiff, Nat.reduceEqDiff, Nat.reduceBEq, Nat.reduceBNe, Int.reduceBEq, Int.reduceBNe, Int.reduceAdd, Int.reduceSub, Int.reduceMul, Int.reduceLE, Int.reduceLT, Int.reduceEq, Int.reduceNeg, Int.reduceToNat, Nat.reduceLT]
    refine RetC.bk [] ⟨rfl, rfl⟩

theorem sp_eachLC (x : Lv) : FSpec Try.prog 86 [.agg [iC x.1, iC x.2.1, iC x.2.2.1, bC x.2.2.2], .cv (.ptr 0 0 0 0)] [.cells [.fn (.func 39) [] []]] (fun v ρ' => v = bV (!decide (fitL x)) ∧ ρ' = [.cells [.fn (.func 39) [] []]]) := by
  refine FSpec.of follow Try.func86 c86 (Nat.le_of_ble_eq_true rfl) fun hf => ?_
  simp only [sc86, go_sem, reduceIte, reduceCtorEq, Nat.reduceAdd, Nat.reduceMul, Nat.reduceSub, Nat.reduceDiv, Nat.reduceMod, Nat.reduceLeDiff, Nat.reduceEqDiff, Nat.reduceBEq, Nat.reduceBNe, Int.reduceBEq, Int.reduceBNe, Int.reduceAdd, Int.reduceSub, Int.reduceMul, Int.reduceLE, Int.reduceLT, Int.reduceEq, Int.reduceNeg, Int.reduceToNat, Nat.reduceLT]
  refine CallC.os (sp_may1 x) [] ?_
  rintro v ρ' ⟨rfl, rfl⟩
  simp only [go_sem, reduceIte, reduceCtorEq, Nat.reduceAdd, Nat.reduceMul, Nat.reduceSub, Nat.reduceDiv, Nat.reduceMod, Nat.reduceLeDiff, Nat.reduceEqDiff, Nat.reduceBEq, Nat.reduceBNe, Int.reduceBEq, Int.reduceBNe, Int.reduceAdd, Int.reduceSub, Int.reduceMul, Int.reduceLE, Int.reduceLT, Int.reduceEq, Int.reduceNeg, Int.reduceToNat, Nat.reduceLT]
  refine RetC.bk [] ⟨rfl, rfl⟩

set_option maxHeartbeats 4000000 in
theorem sp_indexL (l : List Lv) (hlen : l.length ≤ 100) : FSpec Try.prog 94 [.cv (lvS l), .cv (.fn (.func 86) [] [.ptr 0 0 0 0])] [.cells [.fn (.func 39) [] []]] (fun v ρ' => (∃ r, v = iV r ∧ (r ≥ 0 ↔ ¬ ∀ x ∈ l, fitL x)) ∧ ρ' = [.cells [.fn (.func 39) [] []]]) := by
  refine FSpec.of follow Try.func94 c94 (Nat.le_of_ble_eq_true rfl) fun hf => ?_
  simp only [sc94, go_sem, reduceIte, reduceCtorEq, Nat.reduceAdd, Nat.reduceMul, Nat.reduceSub, Nat.reduceDiv, Nat.reduceMod, Nat.reduceLeDiff, Nat.reduceEqDiff, Nat.reduceBEq, Nat.reduceBNe, Int.reduceBEq, Int.reduceBNe, Int.reduceAdd, Int.reduceSub, Int.reduceMul, Int.reduceLE, Int.reduceLT, Int.reduceEq, Int.reduceNeg, Int.reduceToNat, Nat.reduceLT]
  refine LoopC.inv follow (fun i : Nat => ⟨mkSl 19 [(0, .cv (lvS l)), (1, .cv (.fn (.func 86) [] [.ptr 0 0 0 0])), (7, iV l.length), (8, iV i)], [(0, .cells [.fn (.func 39) [] []])], 1⟩)
    (fun i => i ≤ l.length ∧ ∀ x ∈ l.take i, fitL x) (fun i => l.length - i) 0 ⟨Nat.zero_le _, fun x hx => by cases hx⟩ (Weak.b [0] 0) ?_
  rintro i ⟨hi, hl⟩
  simp only [mkSl, go_sem, reduceIte, reduceCtorEq, Nat.reduceAdd, Nat.reduceMul, Nat.reduceSub, Nat.reduceDiv, Nat.reduceMod, Nat.reduceLeDiff, Nat.reduceEqDiff, Nat.reduceBEq, Nat.reduceBNe, Int.reduceBEq, Int.reduceBNe, Int.reduceAdd, Int.reduceSub, Int.reduceMul, Int.reduceLE, Int.reduceLT, Int.reduceEq, Int.reduceNeg, Int.reduceToNat, Nat.reduceLT]
  refine CondC.of (fun hc => ?_) (fun hc => ?_)
  · simp only [decide_eq_true_eq] at hc
    have hc' : i < l.length := by omega
    have hi2 : inI64 ((i : Int) + 1) := by constructor <;> omega
    simp only [go_sem, reduceIte, reduceCtorEq, Nat.reduceAdd, Nat.reduceMul, Nat.reduceSub, Nat.reduceDiv, Nat.reduceMod, Nat.reduceLeDiff, Nat.reduceEqDiff, Nat.reduceBEq, Nat.reduceBNe, Int.reduceBEq, Int.reduceBNe, Int.reduceAdd, Int.reduceSub, Int.reduceMul, Int.reduceLE, Int.reduceLT, Int.reduceEq, Int.reduceNeg, Int.reduceToNat, Nat.reduceLT]
    repeat (refine And.intro (by first | omega | (unfold inI64; omega) | (simp only [u8min, u8max, u16min, u16max, u32min, u32max]; omega)) ?_)
    have hs := sp_eachLC (l.getD i (0, 0, 0, false))
    by_cases h : fitL (l.getD i (0, 0, 0, false))
    · rw [decide_eq_true h] at hs
      refine CallC.os hs [0] ?_
      rintro v ρ' ⟨rfl, rfl⟩
      simp only [Bool.not_true, go_sem, reduceIte, reduceCtorEq, Nat.reduceAdd, Nat.reduceMul, Nat.reduceSub, Nat.reduceDiv, Nat.reduceMod, Nat.reduceLeDiff, Nat.reduceEqDiff, Nat.reduceBEq, Nat.reduceBNe, Int.reduceBEq, Int.reduceBNe, Int.reduceAdd, Int.reduceSub, Int.reduceMul, Int.reduceLE, Int.reduceLT, Int.reduceEq, Int.reduceNeg, Int.reduceToNat, Nat.reduceLT]
      repeat (refine And.intro (by first | omega | (unfold inI64; omega) | (simp only [u8min, u8max, u16min, u16max, u32min, u32max]; omega)) ?_)
      exact ⟨i + 1, ⟨by omega, all_take hc' hl h⟩, by omega, Weak.b [0] 0⟩
    · rw [decide_eq_false h] at hs
      refine CallC.os hs [0] ?_
      rintro v ρ' ⟨rfl, rfl⟩
      simp only [Bool.not_false, go_sem, reduceIte, reduceCtorEq, Nat.reduceAdd, Nat.reduceMul, Nat.reduceSub, Nat.reduceDiv, Nat.reduceMod, Nat.reduceLeDiff, Nat.reduceEqDiff, Nat.reduceBEq, Nat.reduceBNe, Int.reduceBEq, Int.reduceBNe, Int.reduceAdd, Int.reduceSub, Int.reduceMul, Int.reduceLE, Int.reduceLT, Int.reduceEq, Int.reduceNeg, Int.reduceToNat, Nat.reduceLT]
      refine RetC.bk [] ⟨⟨i, rfl, iff_of_true (by omega) fun h' => h (h' _ (getD_mem hc' _))⟩, rfl⟩
  · simp only [decide_eq_false_iff_not] at hc
    obtain rfl : i = l.length := by omega
    rw [List.take_length] at hl
    simp only [go_sem, reduceIte, reduceCtorEq, Nat.reduceAdd, Nat.reduceMul, Nat.reduceSub, Nat.reduceDiv, Nat.reduceMod, Nat.reduceLeDiff, Nat.reduceEqDiff, Nat.reduceBEq, Nat.reduceBNe, Int.reduceBEq, Int.reduceBNe, Int.reduceAdd, Int.reduceSub, Int.reduceMul, Int.reduceLE, Int.reduceLT, Int.reduceEq, Int.reduceNeg, Int.reduceToNat, Nat.reduceLT]
    refine RetC.bk [] ⟨⟨-1, rfl, iff_of_false (by decide) fun h => h hl⟩, rfl⟩

theorem sp_containsL (l : List Lv) (hlen : l.length ≤ 100) : FSpec Try.prog 85 [.cv (lvS l), .cv (.fn (.func 86) [] [.ptr 0 0 0 0])] [.cells [.fn (.func 39) [] []]] (fun v ρ' => v = bV (!decide (∀ x ∈ l, fitL x)) ∧ ρ' = [.cells [.fn (.func 39) [] []]]) := by
  refine FSpec.of follow Try.func85 c85 (Nat.le_of_ble_eq_true rfl) fun hf => ?_
  simp only [sc85, go_sem, reduceIte, reduceCtorEq, Nat.reduceAdd, Nat.reduceMul, Nat.reduceSub, Nat.reduceDiv, Nat.reduceMod, Nat.reduceLeDiff, Nat.reduceEqDiff, Nat.reduceBEq, Nat.reduceBNe, Int.reduceBEq, Int.reduceBNe, Int.reduceAdd, Int.reduceSub, Int.reduceMul, Int.reduceLE, Int.reduceLT, Int.reduceEq, Int.reduceNeg, Int.reduceToNat, Nat.reduceLT]
  refine CallC.os (sp_indexL l hlen) [0] ?_
  rintro v ρ' ⟨⟨r, rfl, hr⟩, rfl⟩
  have e : decide (r ≥ 0) = !decide (∀ x ∈ l, fitL x) := by
    by_cases h : ∀ x ∈ l, fitL x
    · rw [decide_eq_true h, decide_eq_false fun h' => hr.1 h' h]; rfl
    · rw [decide_eq_false h, decide_eq_true (hr.2 h)]; rfl
  simp only [e, go_sem, reduceIte, reduceCtorEq, Nat.reduceAdd, Nat.reduceMul, Nat.reduceSub, Nat.reduceDiv, Nat.reduceMod, Nat.reduceLeDiff, Nat.reduceEqDiff, Nat.reduceBEq, Nat.reduceBNe, Int.reduceBEq, Int.reduceBNe, Int.reduceAdd, Int.reduceSub, Int.reduceMul, Int.reduceLE, Int.reduceLT, Int.reduceEq, Int.reduceNeg, Int.reduceToNat, Nat.reduceLT]
  refine RetC.bk [] ⟨rfl, rfl⟩

theorem sp_eachL (l : List Lv) : FSpec Try.prog 47 [.cv (lvS l), .cv (.fn (.func 39) [] [])] [] (fun v ρ' => v = bV (decide (each fitL l)) ∧ ρ' = []) := by
  refine FSpec.of follow Try.func47 c47 (Nat.le_of_ble_eq_true rfl) fun hf => ?_
  by_cases h : l.length ≤ 40
  · have e1 : decide ((l.length : Int) ≤ 40) = true := decide_eq_true (by omega)
    have e : decide (each fitL l) = decide (∀ x ∈ l, fitL x) := dec_and h
    rw [e]
    simp only [sc47, e1, go_sem, reduceIte, reduceCtorEq, Nat.reduceAdd, Nat.reduceMul, Nat.reduceSub, Nat.reduceDiv, Nat.reduceMod, Nat.reduceLeDiff, Nat.reduceEqDiff, Nat.reduceBEq, Nat.reduceBNe, Int.reduceBEq, Int.reduceBNe, Int.reduceAdd, Int.reduceSub, Int.reduceMul, Int.reduceLE, Int.reduceLT, Int.reduceEq, Int.reduceNeg, Int.reduceToNat, Nat.reduceLT]
    refine CallC.os (sp_containsL l (by omega)) [0] ?_
    rintro v ρ' ⟨rfl, rfl⟩
    simp only [Bool.not_not, go_sem, reduceIte, reduceCtorEq, Nat.reduceAdd, Nat.reduceMul, Nat.reduceSub, Nat.reduceDiv, Nat.reduceMod, Nat.reduceLeDiff, Nat.reduceEqDiff, Nat.reduceBEq, Nat.reduceBNe, Int.reduceBEq, Int.reduceBNe, Int.reduceAdd, Int.reduceSub, Int.reduceMul, Int.reduceLE, Int.reduceLT, Int.reduceEq, Int.reduceNeg, Int.reduceToNat, Nat.reduceLT]
    refine RetC.bk [] ⟨rfl, rfl⟩
  · have e1 : decide ((l.length : Int) ≤ 40) = false := decide_eq_false (by omega)
    have e : decide (each fitL l) = false := dec_and_f h
    rw [e]
    simp only [sc47, e1, go_sem, reduceIte, reduceCtorEq, Nat.reduceAdd, Nat.reduceMul, Nat.reduceSub, Nat.reduceDiv, Nat.reduceMod, Nat.reduceLeDiff, Nat.reduceEqDiff, Nat.reduceBEq, Nat.reduceBNe, Int.reduceBEq, Int.reduceBNe, Int.reduceAdd, Int.reduceSub, Int.reduceMul, Int.reduceLE, Int.reduceLT, Int.reduceEq, Int.reduceNeg, Int.reduceToNat, Nat.reduceLT]
    refine RetC.bk [] ⟨rfl, rfl⟩

theorem sp_eachDC (x : Dt) : FSpec Try.prog 88 [.agg [iC x.1, iC x.2], .cv (.ptr 0 0 0 0)] [.cells [.fn (.func 41) [] []]] (fun v ρ' => v = bV (!decide (fitD x)) ∧ ρ' = [.cells [.fn (.func 41) [] []]]) := by
  refine FSpec.of follow Try.func88 c88 (Nat.le_of_ble_eq_true rfl) fun hf => ?_
  simp only [sc88, go_sem, reduceIte, reduceCtorEq, Nat.reduceAdd, Nat.reduceMul, Nat.reduceSub, Nat.reduceDiv, Nat.reduceMod, Nat.reduceLeDiff, Nat.reduceEqDiff, Nat.reduceBEq, Nat.reduceBNe, Int.reduceBEq, Int.reduceBNe, Int.reduceAdd, Int.reduceSub, Int.reduceMul, Int.reduceLE, Int.reduceLT, Int.reduceEq, Int.reduceNeg, Int.reduceToNat, Nat.reduceLT]
  refine CallC.os (sp_may2 x) [] ?_
  rintro v ρ' ⟨rfl, rfl⟩
  simp only [go_sem, reduceIte, reduceCtorEq, Nat.reduceAdd, Nat.reduceMul, Nat.reduceSub, Nat.reduceDiv, Nat.reduceMod, Nat.reduceLeDiff, Nat.reduceEqDiff, Nat.reduceBEq, Nat.reduceBNe, Int.reduceBEq, Int.reduceBNe, Int.reduceAdd, Int.reduceSub, Int.reduceMul, Int.reduceLE, Int.reduceLT, Int.reduceEq, Int.reduceNeg, Int.reduceToNat, Nat.reduceLT]
  refine RetC.bk [] ⟨rfl, rfl⟩

set_option maxHeartbeats 4000000 in
theorem sp_indexD (l : List Dt) (hlen : l.length ≤ 100) : FSpec Try.prog 95 [.cv (dtS l), .cv (.fn (.func 88) [] [.ptr 0 0 0 0])] [.cells [.fn (.func 41) [] []]] (fun v ρ' => (∃ r, v = iV r ∧ (r ≥ 0 ↔ ¬ ∀ x ∈ l, fitD x)) ∧ ρ' = [.cells [.fn (.func 41) [] []]]) := by
  refine FSpec.of follow Try.func95 c95 (Nat.le_of_ble_eq_true rfl) fun hf => ?_
  simp only [sc95, go_sem, reduceIte, reduceCtorEq, Nat.reduceAdd, Nat.reduceMul, Nat.reduceSub, Nat.reduceDiv, Nat.reduceMod, Nat.reduceLeDiff, Nat.reduceEqDiff, Nat.reduceBEq, Nat.reduceBNe, Int.reduceBEq, Int.reduceBNe, Int.reduceAdd, Int.reduceSub, Int.reduceMul, Int.reduceLE, Int.reduceLT, Int.reduceEq, Int.reduceNeg, Int.reduceToNat, Nat.reduceLT]
  refine LoopC.inv follow (fun i : Nat => ⟨mkSl 19 [(0, .cv (dtS l)), (1, .cv (.fn (.func 88) [] [.ptr 0 0 0 0])), (7, iV l.length), (8, iV i)], [(0, .cells [.fn (.func 41) [] []])], 1⟩)
    (fun i => i ≤ l.length ∧ ∀ x ∈ l.take i, fitD x) (fun i => l.length - i) 0 ⟨Nat.zero_le _, fun x hx => by cases hx⟩ (Weak.b [0] 0) ?_
  rintro i ⟨hi, hl⟩
  simp only [mkSl, go_sem, reduceIte, reduceCtorEq, Nat.reduceAdd, Nat.reduceMul, Nat.reduceSub, Nat.reduceDiv, Nat.reduceMod, Nat.reduceLeDiff, Nat.reduceEqDiff, Nat.reduceBEq, Nat.reduceBNe, Int.reduceBEq, Int.reduceBNe, Int.reduceAdd, Int.reduceSub, Int.reduceMul, Int.reduceLE, Int.reduceLT, Int.reduceEq, Int.reduceNeg, Int.reduceToNat, Nat.reduceLT]
  refine CondC.of (fun hc => ?_) (fun hc => ?_)
  · simp only [decide_eq_true_eq] at hc
    have hc' : i < l.length := by omega
    have hi2 : inI64 ((i : Int) + 1) := by constructor <;> omega
    simp only [go_sem, reduceIte, reduceCtorEq, Nat.reduceAdd, Nat.reduceMul, Nat.reduceSub, Nat.reduceDiv, Nat.reduceMod, Nat.reduceLeDiff, Nat.reduceEqDiff, Nat.reduceBEq, Nat.reduceBNe, Int.reduceBEq, Int.reduceBNe, Int.reduceAdd, Int.reduceSub, Int.reduceMul, Int.reduceLE, Int.reduceLT, Int.reduceEq, Int.reduceNeg, Int.reduceToNat, Nat.reduceLT]
    repeat (refine And.intro (by first | omega | (unfold inI64; omega) | (simp only [u8min, u8max, u16min, u16max, u32min, u32max]; omega)) ?_)
    have hs := sp_eachDC (l.getD i (0, 0))
    by_cases h : fitD (l.getD i (0, 0))
    · rw [decide_eq_true h] at hs
      refine CallC.os hs [0] ?_
      rintro v ρ' ⟨rfl, rfl⟩
      simp only [Bool.not_true, go_sem, reduceIte, reduceCtorEq, Nat.reduceAdd, Nat.reduceMul, Nat.reduceSub, Nat.reduceDiv, Nat.reduceMod, Nat.reduceLeDiff, Nat.reduceEqDiff, Nat.reduceBEq, Nat.reduceBNe, Int.reduceBEq, Int.reduceBNe, Int.reduceAdd, Int.reduceSub, Int.reduceMul, Int.reduceLE, Int.reduceLT, Int.reduceEq, Int.reduceNeg, Int.reduceToNat, Nat.reduceLT]
      repeat (refine And.intro (by first | omega | (unfold inI64; omega) | (simp only [u8min, u8max, u16min, u16max, u32min, u32max]; omega)) ?_)
      exact ⟨i + 1, ⟨by omega, all_take hc' hl h⟩, by omega, Weak.b [0] 0⟩
    · rw [decide_eq_false h] at hs
      refine CallC.os hs [0] ?_
      rintro v ρ' ⟨rfl, rfl⟩
      simp only [Bool.not_false, go_sem, reduceIte, reduceCtorEq, Nat.reduceAdd, Nat.reduceMul, Nat.reduceSub, Nat.reduceDiv, Nat.reduceMod, Nat.reduceLeDiff, Nat.reduceEqDiff, Nat.reduceBEq, Nat.reduceBNe, Int.reduceBEq, Int.reduceBNe, Int.reduceAdd, Int.reduceSub, Int.reduceMul, Int.reduceLE, Int.reduceLT, Int.reduceEq, Int.reduceNeg, Int.reduceToNat, Nat.reduceLT]
      refine RetC.bk [] ⟨⟨i, rfl, iff_of_true (by omega) fun h' => h (h' _ (getD_mem hc' _))⟩, rfl⟩
  · simp only [decide_eq_false_iff_not] at hc
    obtain rfl : i = l.length := by omega
    rw [List.take_length] at hl
    simp only [go_sem, reduceIte, reduceCtorEq, Nat.reduceAdd, Nat.reduceMul, Nat.reduceSub, Nat.reduceDiv, Nat.reduceMod, Nat.reduceLeDiff, Nat.reduceEqDiff, Nat.reduceBEq, Nat.reduceBNe, Int.reduceBEq, Int.reduceBNe, Int.reduceAdd, Int.reduceSub, Int.reduceMul, Int.reduceLE, Int.reduceLT, Int.reduceEq, Int.reduceNeg, Int.reduceToNat, Nat.reduceLT]
    refine RetC.bk [] ⟨⟨-1, rfl, iff_of_false (by decide) fun h => h hl⟩, rfl⟩

theorem sp_containsD (l : List Dt) (hlen : l.length ≤ 100) : FSpec Try.prog 87 [.cv (dtS l), .cv (.fn (.func 88) [] [.ptr 0 0 0 0])] [.cells [.fn (.func 41) [] []]] (fun v ρ' => v = bV (!decide (∀ x ∈ l, fitD x)) ∧ ρ' = [.cells [.fn (.func 41) [] []]]) := by
  refine FSpec.of follow Try.func87 c87 (Nat.le_of_ble_eq_true rfl) fun hf => ?_
  simp only [sc87, go_sem, reduceIte, reduceCtorEq, Nat.reduceAdd, Nat.reduceMul, Nat.reduceSub, Nat.reduceDiv, Nat.reduceMod, Nat.reduceLeDiff, Nat.reduceEqDiff, Nat.reduceBEq, Nat.reduceBNe, Int.reduceBEq, Int.reduceBNe, Int.reduceAdd, Int.reduceSub, Int.reduceMul, Int.reduceLE, Int.reduceLT, Int.reduceEq, Int.reduceNeg, Int.reduceToNat, Nat.reduceLT]
  refine CallC.os (sp_indexD l hlen) [0] ?_
  rintro v ρ' ⟨⟨r, rfl, hr⟩, rfl⟩
  have e : decide (r ≥ 0) = !decide (∀ x ∈ l, fitD x) := by
    by_cases h : ∀ x ∈ l, fitD x
    · rw [decide_eq_true h, decide_eq_false fun h' => hr.1 h' h]; rfl
    · rw [decide_eq_false h, decide_eq_true (hr.2 h)]; rfl
  simp only [e, go_sem, reduceIte, reduceCtorEq, Nat.reduceAdd, Nat.reduceMul, Nat.reduceSub, Nat.reduceDiv, Nat.reduceMod, Nat.reduceLeDiff, Nat.reduceEqDiff, Nat.reduceBEq, Nat.reduceBNe, Int.reduceBEq, Int.reduceBNe, Int.reduceAdd, Int.reduceSub, Int.reduceMul, Int.reduceLE, Int.reduceLT, Int.reduceEq, Int.reduceNeg, Int.reduceToNat, Nat.reduceLT]
  refine RetC.bk [] ⟨rfl, rfl⟩

theorem sp_eachD (l : List Dt) : FSpec Try.prog 48 [.cv (dtS l), .cv (.fn (.func 41) [] [])] [] (fun v ρ' => v = bV (decide (each fitD l)) ∧ ρ' = []) := by
  refine FSpec.of follow Try.func48 c48 (Nat.le_of_ble_eq_true rfl) fun hf => ?_
  by_cases h : l.length ≤ 40
  · have e1 : decide ((l.length : Int) ≤ 40) = true := decide_eq_true (by omega)
    have e : decide (each fitD l) = decide (∀ x ∈ l, fitD x) := dec_and h
    rw [e]
    simp only [sc48, e1, go_sem, reduceIte, reduceCtorEq, Nat.reduceAdd, Nat.reduceMul, Nat.reduceSub, Nat.reduceDiv, Nat.reduceMod, Nat.reduceLeDiff, Nat.reduceEqDiff, Nat.reduceBEq, Nat.reduceBNe, Int.reduceBEq, Int.reduceBNe, Int.reduceAdd, Int.reduceSub, Int.reduceMul, Int.reduceLE, Int.reduceLT, Int.reduceEq, Int.reduceNeg, Int.reduceToNat, Nat.reduceLT]
    refine CallC.os (sp_containsD l (by omega)) [0] ?_
    rintro v ρ' ⟨rfl, rfl⟩
    simp only [Bool.not_not, go_sem, reduceIte, reduceCtorEq, Nat.reduceAdd, Nat.reduceMul, Nat.reduceSub, Nat.reduceDiv, Nat.reduceMod, Nat.reduceLeDiff, Nat.reduceEqDiff, Nat.reduceBEq, Nat.reduceBNe, Int.reduceBEq, Int.reduceBNe, Int.reduceAdd, Int.reduceSub, Int.reduceMul, Int.reduceLE, Int.reduceLT, Int.reduceEq, Int.reduceNeg, Int.reduceToNat, Nat.reduceLT]
    refine RetC.bk [] ⟨rfl, rfl⟩
  · have e1 : decide ((l.length : Int) ≤ 40) = false := decide_eq_false (by omega)
    have e : decide (each fitD l) = false := dec_and_f h
    rw [e]
    simp only [sc48, e1, go_sem, reduceIte, reduceCtorEq, Nat.reduceAdd, Nat.reduceMul, Nat.reduceSub, Nat.reduceDiv, Nat.reduceMod, Nat.reduceLeDiff, Nat.reduceEqDiff, Nat.reduceBEq, Nat.reduceBNe, Int.reduceBEq, Int.reduceBNe, Int.reduceAdd, Int.reduceSub, Int.reduceMul, Int.reduceLE, Int.reduceLT, Int.reduceEq, Int.reduceNeg, Int.reduceToNat, Nat.reduceLT]
    refine RetC.bk [] ⟨rfl, rfl⟩

theorem sp_may3 (x : Op) : FSpec Try.prog 42 [.agg [iC x.1, mvS x.2.2, iC x.2.1]] [] (fun v ρ' => v = bV (decide (fitO x)) ∧ ρ' = []) := by
  have hs1 := sp_fits1 2 (by omega) x.1
  have hs2 := sp_fits1 1 (by omega) x.2.1
  have hs3 := sp_eachM x.2.2
  obtain ⟨b, hb⟩ : ∃ b, decide (fitO x) = b := ⟨_, rfl⟩
  rw [hb]
  refine FSpec.of follow Try.func42 c42 (Nat.le_of_ble_eq_true rfl) fun hf => ?_
  simp only [sc42, go_sem, reduceIte, reduceCtorEq, Nat.reduceAdd, Nat.reduceMul, Nat.reduceSub, Nat.reduceDiv, Nat.reduceMod, Nat.reduceLeDiff, Nat.reduceEqDiff, Nat.reduceBEq, Nat.reduceBNe, Int.reduceBEq, Int.reduceBNe, Int.reduceAdd, Int.reduceSub, Int.reduceMul, Int.reduceLE, Int.reduceLT, Int.reduceEq, Int.reduceNeg, Int.reduceToNat, Nat.reduceLT]
  by_cases h : fit 2 x.1
  · rw [decide_eq_true h] at hs1
    refine CallC.of_fz hs1 [(20, .frz 1 1 (inC [x.1]))] [] ⟨⟨Nat.zero_lt_one, Nat.le_refl _, .inl (in1 _)⟩, trivial⟩ rfl rfl ⟨by repeat' (first | exact trivial | exact rfl | exact Or.inl rfl | exact slotW_ren _ | exact cvW_ren _ | exact cvsW_ren _ | exact Nat.le_refl _ | exact slotW_frz rfl (Nat.le_refl _) | exact slotW_nil (Nat.le_of_ble_eq_true rfl) | exact cvW_frz rfl (Nat.le_refl _) | exact cvW_nil (Nat.le_of_ble_eq_true rfl) | exact Or.inl fun _ _ => rfl | exact fun _ _ => rfl | exact Nat.le_of_ble_eq_true rfl | refine ⟨Or.inl ⟨Nat.le_of_ble_eq_true rfl, ?_⟩, ?_⟩ | refine ⟨Or.inr ⟨Nat.le_of_ble_eq_true rfl, Nat.le_of_ble_eq_true rfl, Nat.le_of_ble_eq_true rfl⟩, ?_⟩ | exact Or.inr ⟨rfl, rfl, rfl, rfl, Nat.le_of_ble_eq_true rfl, Nat.le_of_ble_eq_true rfl, Nat.le_of_ble_eq_true rfl⟩ | refine ⟨?_, ?_⟩), slotW_frz rfl (Nat.le_refl _), trivial⟩ (by repeat' (first | exact trivial | exact rfl | exact Or.inl rfl | exact slotW_ren _ | exact cvW_ren _ | exact cvsW_ren _ | exact Nat.le_refl _ | exact slotW_frz rfl (Nat.le_refl _) | exact slotW_nil (Nat.le_of_ble_eq_true rfl) | exact cvW_frz rfl (Nat.le_refl _) | exact cvW_nil (Nat.le_of_ble_eq_true rfl) | exact Or.inl fun _ _ => rfl | exact fun _ _ => rfl | exact Nat.le_of_ble_eq_true rfl | refine ⟨Or.inl ⟨Nat.le_of_ble_eq_true rfl, ?_⟩, ?_⟩ | refine ⟨Or.inr ⟨Nat.le_of_ble_eq_true rfl, Nat.le_of_ble_eq_true rfl, Nat.le_of_ble_eq_true rfl⟩, ?_⟩ | exact Or.inr ⟨rfl, rfl, rfl, rfl, Nat.le_of_ble_eq_true rfl, Nat.le_of_ble_eq_true rfl, Nat.le_of_ble_eq_true rfl⟩ | refine ⟨?_, ?_⟩)) rfl rfl ?_
    rintro v ρ' ⟨rfl, rfl⟩
    simp only [go_sem, reduceIte, reduceCtorEq, Nat.reduceAdd, Nat.reduceMul, Nat.reduceSub, Nat.reduceDiv, Nat.reduceMod, Nat.reduceLeDiff, Nat.reduceEqDiff, Nat.reduceBEq, Nat.reduceBNe, Int.reduceBEq, Int.reduceBNe, Int.reduceAdd, Int.reduceSub, Int.reduceMul, Int.reduceLE, Int.reduceLT, Int.reduceEq, Int.reduceNeg, Int.reduceToNat, Nat.reduceLT]
    by_cases h2 : fit 1 x.2.1
    · have e : decide (each fitM x.2.2) = b := by rw [← hb]; exact decide_eq_decide.2 ⟨fun k => ⟨h, h2, k⟩, fun k => k.2.2⟩
      rw [e] at hs3
      rw [decide_eq_true h2] at hs2
      refine CallC.of_fz hs2 [(25, .frz 1 1 (inC [x.2.1]))] [] ⟨⟨Nat.zero_lt_one, Nat.le_refl _, .inl (in1 _)⟩, trivial⟩ rfl rfl ⟨by repeat' (first | exact trivial | exact rfl | exact Or.inl rfl | exact slotW_ren _ | exact cvW_ren _ | exact cvsW_ren _ | exact Nat.le_refl _ | exact slotW_frz rfl (Nat.le_refl _) | exact slotW_nil (Nat.le_of_ble_eq_true rfl) | exact cvW_frz rfl (Nat.le_refl _) | exact cvW_nil (Nat.le_of_ble_eq_true rfl) | exact Or.inl fun _ _ => rfl | exact fun _ _ => rfl | exact Nat.le_of_ble_eq_true rfl | refine ⟨Or.inl ⟨Nat.le_of_ble_eq_true rfl, ?_⟩, ?_⟩ | refine ⟨Or.inr ⟨Nat.le_of_ble_eq_true rfl, Nat.le_of_ble_eq_true rfl, Nat.le_of_ble_eq_true rfl⟩, ?_⟩ | exact Or.inr ⟨rfl, rfl, rfl, rfl, Nat.le_of_ble_eq_true rfl, Nat.le_of_ble_eq_true rfl, Nat.le_of_ble_eq_true rfl⟩ | refine ⟨?_, ?_⟩), slotW_frz rfl (Nat.le_refl _), trivial⟩ (by repeat' (first | exact trivial | exact rfl | exact Or.inl rfl | exact slotW_ren _ | exact cvW_ren _ | exact cvsW_ren _ | exact Nat.le_refl _ | exact slotW_frz rfl (Nat.le_refl _) | exact slotW_nil (Nat.le_of_ble_eq_true rfl) | exact cvW_frz rfl (Nat.le_refl _) | exact cvW_nil (Nat.le_of_ble_eq_true rfl) | exact Or.inl fun _ _ => rfl | exact fun _ _ => rfl | exact Nat.le_of_ble_eq_true rfl | refine ⟨Or.inl ⟨Nat.le_of_ble_eq_true rfl, ?_⟩, ?_⟩ | refine ⟨Or.inr ⟨Nat.le_of_ble_eq_true rfl, Nat.le_of_ble_eq_true rfl, Nat.le_of_ble_eq_true rfl⟩, ?_⟩ | exact Or.inr ⟨rfl, rfl, rfl, rfl, Nat.le_of_ble_eq_true rfl, Nat.le_of_ble_eq_true rfl, Nat.le_of_ble_eq_true rfl⟩ | refine ⟨?_, ?_⟩)) rfl rfl ?_
      rintro v ρ' ⟨rfl, rfl⟩
      simp only [go_sem, reduceIte, reduceCtorEq, Nat.reduceAdd, Nat.reduceMul, Nat.reduceSub, Nat.reduceDiv, Nat.reduceMod, Nat.reduceLeDiff, Nat.reduceEqDiff, Nat.reduceBEq, Nat.reduceBNe, Int.reduceBEq, Int.reduceBNe, Int.reduceAdd, Int.reduceSub, Int.reduceMul, Int.reduceLE, Int.reduceLT, Int.reduceEq, Int.reduceNeg, Int.reduceToNat, Nat.reduceLT]
      refine CallC.os hs3 [] ?_
      rintro v ρ' ⟨rfl, rfl⟩
      simp only [go_sem, reduceIte, reduceCtorEq, Nat.reduceAdd, Nat.reduceMul, Nat.reduceSub, Nat.reduceDiv, Nat.reduceMod, Nat.reduceLeDiff, Nat.reduceEqDiff, Nat.reduceBEq, Nat.reduceBNe, Int.reduceBEq, Int.reduceBNe, Int.reduceAdd, Int.reduceSub, Int.reduceMul, Int.reduceLE, Int.reduceLT, Int.reduceEq, Int.reduceNeg, Int.reduceToNat, Nat.reduceLT]
      refine RetC.bk [] ⟨rfl, rfl⟩
    · obtain rfl : b = false := by rw [← hb]; exact decide_eq_false fun k => h2 k.2.1
      rw [decide_eq_false h2] at hs2
      refine CallC.of_fz hs2 [(25, .frz 1 1 (inC [x.2.1]))] [] ⟨⟨Nat.zero_lt_one, Nat.le_refl _, .inl (in1 _)⟩, trivial⟩ rfl rfl ⟨by repeat' (first | exact trivial | exact rfl | exact Or.inl rfl | exact slotW_ren _ | exact cvW_ren _ | exact cvsW_ren _ | exact Nat.le_refl _ | exact slotW_frz rfl (Nat.le_refl _) | exact slotW_nil (Nat.le_of_ble_eq_true rfl) | exact cvW_frz rfl (Nat.le_refl _) | exact cvW_nil (Nat.le_of_ble_eq_true rfl) | exact Or.inl fun _ _ => rfl | exact fun _ _ => rfl | exact Nat.le_of_ble_eq_true rfl | refine ⟨Or.inl ⟨Nat.le_of_ble_eq_true rfl, ?_⟩, ?_⟩ | refine ⟨Or.inr ⟨Nat.le_of_ble_eq_true rfl, Nat.le_of_ble_eq_true rfl, Nat.le_of_ble_eq_true rfl⟩, ?_⟩ | exact Or.inr ⟨rfl, rfl, rfl, rfl, Nat.le_of_ble_eq_true rfl, Nat.le_of_ble_eq_true rfl, Nat.le_of_ble_eq_true rfl⟩ | refine ⟨?_, ?_⟩), slotW_frz rfl (Nat.le_refl _), trivial⟩ (by repeat' (first | exact trivial | exact rfl | exact Or.inl rfl | exact slotW_ren _ | exact cvW_ren _ | exact cvsW_ren _ | exact Nat.le_refl _ | exact slotW_frz rfl (Nat.le_refl _) | exact slotW_nil (Nat.le_of_ble_eq_true rfl) | exact cvW_frz rfl (Nat.le_refl _) | exact cvW_nil (Nat.le_of_ble_eq_true rfl) | exact Or.inl fun _ _ => rfl | exact fun _ _ => rfl | exact Nat.le_of_ble_eq_true rfl | refine ⟨Or.inl ⟨Nat.le_of_ble_eq_true rfl, ?_⟩, ?_⟩ | refine ⟨Or.inr ⟨Nat.le_of_ble_eq_true rfl, Nat.le_of_ble_eq_true rfl, Nat.le_of_ble_eq_true rfl⟩, ?_⟩ | exact Or.inr ⟨rfl, rfl, rfl, rfl, Nat.le_of_ble_eq_true rfl, Nat.le_of_ble_eq_true rfl, Nat.le_of_ble_eq_true rfl⟩ | refine ⟨?_, ?_⟩)) rfl rfl ?_
      rintro v ρ' ⟨rfl, rfl⟩
      simp only [go_sem, reduceIte, reduceCtorEq, Nat.reduceAdd, Nat.reduceMul, Nat.reduceSub, Nat.reduceDiv, Nat.reduceMod, Nat.reduceLeDiff, Nat.reduceEqDiff, Nat.reduceBEq, Nat.reduceBNe, Int.reduceBEq, Int.reduceBNe, Int.reduceAdd, Int.reduceSub, Int.reduceMul, Int.reduceLE, Int.reduceLT, Int.reduceEq, Int.reduceNeg, Int.reduceToNat, Nat.reduceLT]
      refine RetC.bk [] ⟨rfl, rfl⟩
  · obtain rfl : b = false := by rw [← hb]; exact decide_eq_false fun k => h k.1
    rw [decide_eq_false h] at hs1
    refine CallC.of_fz hs1 [(20, .frz 1 1 (inC [x.1]))] [] ⟨⟨Nat.zero_lt_one, Nat.le_refl _, .inl (in1 _)⟩, trivial⟩ rfl rfl ⟨by repeat' (first | exact trivial | exact rfl | exact Or.inl rfl | exact slotW_ren _ | exact cvW_ren _ | exact cvsW_ren _ | exact Nat.le_refl _ | exact slotW_frz rfl (Nat.le_refl _) | exact slotW_nil (Nat.le_of_ble_eq_true rfl) | exact cvW_frz rfl (Nat.le_refl _) | exact cvW_nil (Nat.le_of_ble_eq_true rfl) | exact Or.inl fun _ _ => rfl | exact fun _ _ => rfl | exact Nat.le_of_ble_eq_true rfl | refine ⟨Or.inl ⟨Nat.le_of_ble_eq_true rfl, ?_⟩, ?_⟩ | refine ⟨Or.inr ⟨Nat.le_of_ble_eq_true rfl, Nat.le_of_ble_eq_true rfl, Nat.le_of_ble_eq_true rfl⟩, ?_⟩ | exact Or.inr ⟨rfl, rfl, rfl, rfl, Nat.le_of_ble_eq_true rfl, Nat.le_of_ble_eq_true rfl, Nat.le_of_ble_eq_true rfl⟩ | refine ⟨?_, ?_⟩), slotW_frz rfl (Nat.le_refl _), trivial⟩ (by repeat' (first | exact trivial | exact rfl | exact Or.inl rfl | exact slotW_ren _ | exact cvW_ren _ | exact cvsW_ren _ | exact Nat.le_refl _ | exact slotW_frz rfl (Nat.le_refl _) | exact slotW_nil (Nat.le_of_ble_eq_true rfl) | exact cvW_frz rfl (Nat.le_refl _) | exact cvW_nil (Nat.le_of_ble_eq_true rfl) | exact Or.inl fun _ _ => rfl | exact fun _ _ => rfl | exact Nat.le_of_ble_eq_true rfl | refine ⟨Or.inl ⟨Nat.le_of_ble_eq_true rfl, ?_⟩, ?_⟩ | refine ⟨Or.inr ⟨Nat.le_of_ble_eq_true rfl, Nat.le_of_ble_eq_true rfl, Nat.le_of_ble_eq_true rfl⟩, ?_⟩ | exact Or.inr ⟨rfl, rfl, rfl, rfl, Nat.le_of_ble_eq_true rfl, Nat.le_of_ble_eq_true rfl, Nat.le_of_ble_eq_true rfl⟩ | refine ⟨?_, ?_⟩)) rfl rfl ?_
    rintro v ρ' ⟨rfl, rfl⟩
    simp only [go_sem, reduceIte, reduceCtorEq, Nat.reduceAdd, Nat.reduceMul, Nat.reduceSub, Nat.reduceDiv, Nat.reduceMod, Nat.reduceLeDiff, Nat.reduceEqDiff, Nat.reduceBEq, Nat.reduceBNe, Int.reduceBEq, Int.reduceBNe, Int.reduceAdd, Int.reduceSub, Int.reduceMul, Int.reduceLE, Int.reduceLT, Int.reduceEq, Int.reduceNeg, Int.reduceToNat, Nat.reduceLT]
    refine RetC.bk [] ⟨rfl, rfl⟩

theorem sp_eachOC (x : Op) : FSpec Try.prog 90 [.agg [iC x.1, mvS x.2.2, iC x.2.1], .cv (.ptr 0 0 0 0)] [.cells [.fn (.func 42) [] []]] (fun v ρ' => v = bV (!decide (fitO x)) ∧ ρ' = [.cells [.fn (.func 42) [] []]]) := by
  refine FSpec.of follow Try.func90 c90 (Nat.le_of_ble_eq_true rfl) fun hf => ?_
  simp only [sc90, go_sem, reduceIte, reduceCtorEq, Nat.reduceAdd, Nat.reduceMul, Nat.reduceSub, Nat.reduceDiv, Nat.reduceMod, Nat.reduceLeDiff, Nat.reduceEqDiff, Nat.reduceBEq, Nat.reduceBNe, Int.reduceBEq, Int.reduceBNe, Int.reduceAdd, Int.reduceSub, Int.reduceMul, Int.reduceLE, Int.reduceLT, Int.reduceEq, Int.reduceNeg, Int.reduceToNat, Nat.reduceLT]
  refine CallC.os (sp_may3 x) [] ?_
  rintro v ρ' ⟨rfl, rfl⟩
  simp only [go_sem, reduceIte, reduceCtorEq, Nat.reduceAdd, Nat.reduceMul, Nat.reduceSub, Nat.reduceDiv, Nat.reduceMod, Nat.reduceLeDiff, Nat.reduceEqDiff, Nat.reduceBEq, Nat.reduceBNe, Int.reduceBEq, Int.reduceBNe, Int.reduceAdd, Int.reduceSub, Int.reduceMul, Int.reduceLE, Int.reduceLT, Int.reduceEq, Int.reduceNeg, Int.reduceToNat, Nat.reduceLT]
  refine RetC.bk [] ⟨rfl, rfl⟩

set_option maxHeartbeats 4000000 in
theorem sp_indexO (l : List Op) (hlen : l.length ≤ 100) : FSpec Try.prog 96 [.cv (opS l), .cv (.fn (.func 90) [] [.ptr 0 0 0 0])] [.cells [.fn (.func 42) [] []]] (fun v ρ' => (∃ r, v = iV r ∧ (r ≥ 0 ↔ ¬ ∀ x ∈ l, fitO x)) ∧ ρ' = [.cells [.fn (.func 42) [] []]]) := by
  refine FSpec.of follow Try.func96 c96 (Nat.le_of_ble_eq_true rfl) fun hf => ?_
  simp only [sc96, go_sem, reduceIte, reduceCtorEq, Nat.reduceAdd, Nat.reduceMul, Nat.reduceSub, Nat.reduceDiv, Nat.reduceMod, Nat.reduceLeDiff, Nat.reduceEqDiff, Nat.reduceBEq, Nat.reduceBNe, Int.reduceBEq, Int.reduceBNe, Int.reduceAdd, Int.reduceSub, Int.reduceMul, Int.reduceLE, Int.reduceLT, Int.reduceEq, Int.reduceNeg, Int.reduceToNat, Nat.reduceLT]
  refine LoopC.inv follow (fun i : Nat => ⟨mkSl 19 [(0, .cv (opS l)), (1, .cv (.fn (.func 90) [] [.ptr 0 0 0 0])), (7, iV l.length), (8, iV i)], [(0, .cells [.fn (.func 42) [] []])], 1⟩)
    (fun i => i ≤ l.length ∧ ∀ x ∈ l.take i, fitO x) (fun i => l.length - i) 0 ⟨Nat.zero_le _, fun x hx => by cases hx⟩ (Weak.b [0] 0) ?_
  rintro i ⟨hi, hl⟩
  simp only [mkSl, go_sem, reduceIte, reduceCtorEq, Nat.reduceAdd, Nat.reduceMul, Nat.reduceSub, Nat.reduceDiv, Nat.reduceMod, Nat.reduceLeDiff, Nat.reduceEqDiff, Nat.reduceBEq, Nat.reduceBNe, Int.reduceBEq, Int.reduceBNe, Int.reduceAdd, Int.reduceSub, Int.reduceMul, Int.reduceLE, Int.reduceLT, Int.reduceEq, Int.reduceNeg, Int.reduceToNat, Nat.reduceLT]
  refine CondC.of (fun hc => ?_) (fun hc => ?_)
  · simp only [decide_eq_true_eq] at hc
    have hc' : i < l.length := by omega
    have hi2 : inI64 ((i : Int) + 1) := by constructor <;> omega
    simp only [go_sem, reduceIte, reduceCtorEq, Nat.reduceAdd, Nat.reduceMul, Nat.reduceSub, Nat.reduceDiv, Nat.reduceMod, Nat.reduceLeDiff, Nat.reduceEqDiff, Nat.reduceBEq, Nat.reduceBNe, Int.reduceBEq, Int.reduceBNe, Int.reduceAdd, Int.reduceSub, Int.reduceMul, Int.reduceLE, Int.reduceLT, Int.reduceEq, Int.reduceNeg, Int.reduceToNat, Nat.reduceLT]
    repeat (refine And.intro (by first | omega | (unfold inI64; omega) | (simp only [u8min, u8max, u16min, u16max, u32min, u32max]; omega)) ?_)
    have hs := sp_eachOC (l.getD i (0, 0, []))
    by_cases h : fitO (l.getD i (0, 0, []))
    · rw [decide_eq_true h] at hs
      refine CallC.os hs [0] ?_
      rintro v ρ' ⟨rfl, rfl⟩
      simp only [Bool.not_true, go_sem, reduceIte, reduceCtorEq, Nat.reduceAdd, Nat.reduceMul, Nat.reduceSub, Nat.reduceDiv, Nat.reduceMod, Nat.reduceLeDiff, Nat.reduceEqDiff, Nat.reduceBEq, Nat.reduceBNe, Int.reduceBEq, Int.reduceBNe, Int.reduceAdd, Int.reduceSub, Int.reduceMul, Int.reduceLE, Int.reduceLT, Int.reduceEq, Int.reduceNeg, Int.reduceToNat, Nat.reduceLT]
      repeat (refine And.intro (by first | omega | (unfold inI64; omega) | (simp only [u8min, u8max, u16min, u16max, u32min, u32max]; omega)) ?_)
      exact ⟨i + 1, ⟨by omega, all_take hc' hl h⟩, by omega, Weak.b [0] 0⟩
    · rw [decide_eq_false h] at hs
      refine CallC.os hs [0] ?_
      rintro v ρ' ⟨rfl, rfl⟩
      simp only [Bool.not_false, go_sem, reduceIte, reduceCtorEq, Nat.reduceAdd, Nat.reduceMul, Nat.reduceSub, Nat.reduceDiv, Nat.reduceMod, Nat.reduceLeDiff, Nat.reduceEqDiff, Nat.reduceBEq, Nat.reduceBNe, Int.reduceBEq, Int.reduceBNe, Int.reduceAdd, Int.reduceSub, Int.reduceMul, Int.reduceLE, Int.reduceLT, Int.reduceEq, Int.reduceNeg, Int.reduceToNat, Nat.reduceLT]
      refine RetC.bk [] ⟨⟨i, rfl, iff_of_true (by omega) fun h' => h (h' _ (getD_mem hc' _))⟩, rfl⟩
  · simp only [decide_eq_false_iff_not] at hc
    obtain rfl : i = l.length := by omega
    rw [List.take_length] at hl
    simp only [go_sem, reduceIte, reduceCtorEq, Nat.reduceAdd, Nat.reduceMul, Nat.reduceSub, Nat.reduceDiv, Nat.reduceMod, Nat.reduceLeDiff, Nat.reduceEqDiff, Nat.reduceBEq, Nat.reduceBNe, Int.reduceBEq, Int.reduceBNe, Int.reduceAdd, Int.reduceSub, Int.reduceMul, Int.reduceLE, Int.reduceLT, Int.reduceEq, Int.reduceNeg, Int.reduceToNat, Nat.reduceLT]
    refine RetC.bk [] ⟨⟨-1, rfl, iff_of_false (by decide) fun h => h hl⟩, rfl⟩

theorem sp_containsO (l : List Op) (hlen : l.length ≤ 100) : FSpec Try.prog 89 [.cv (opS l), .cv (.fn (.func 90) [] [.ptr 0 0 0 0])] [.cells [.fn (.func 42) [] []]] (fun v ρ' => v = bV (!decide (∀ x ∈ l, fitO x)) ∧ ρ' = [.cells [.fn (.func 42) [] []]]) := by
  refine FSpec.of follow Try.func89 c89 (Nat.le_of_ble_eq_true rfl) fun hf => ?_
  simp only [sc89, go_sem, reduceIte, reduceCtorEq, Nat.reduceAdd, Nat.reduceMul, Nat.reduceSub, Nat.reduceDiv, Nat.reduceMod, Nat.reduceLeDiff, Nat.reduceEqDiff, Nat.reduceBEq, Nat.reduceBNe, Int.reduceBEq, Int.reduceBNe, Int.reduceAdd, Int.reduceSub, Int.reduceMul, Int.reduceLE, Int.reduceLT, Int.reduceEq, Int.reduceNeg, Int.reduceToNat, Nat.reduceLT]
  refine CallC.os (sp_indexO l hlen) [0] ?_
  rintro v ρ' ⟨⟨r, rfl, hr⟩, rfl⟩
  have e : decide (r ≥ 0) = !decide (∀ x ∈ l, fitO x) := by
    by_cases h : ∀ x ∈ l, fitO x
    · rw [decide_eq_true h, decide_eq_false fun h' => hr.1 h' h]; rfl
    · rw [decide_eq_false h, decide_eq_true (hr.2 h)]; rfl
  simp only [e, go_sem, reduceIte, reduceCtorEq, Nat.reduceAdd, Nat.reduceMul, Nat.reduceSub, Nat.reduceDiv, Nat.reduceMod, Nat.reduceLeDiff, Nat.reduceEqDiff, Nat.reduceBEq, Nat.reduceBNe, Int.reduceBEq, Int.reduceBNe, Int.reduceAdd, Int.reduceSub, Int.reduceMul, Int.reduceLE, Int.reduceLT, Int.reduceEq, Int.reduceNeg, Int.reduceToNat, Nat.reduceLT]
  refine RetC.bk [] ⟨rfl, rfl⟩

theorem sp_eachO (l : List Op) : FSpec Try.prog 49 [.cv (opS l), .cv (.fn (.func 42) [] [])] [] (fun v ρ' => v = bV (decide (each fitO l)) ∧ ρ' = []) := by
  refine FSpec.of follow Try.func49 c49 (Nat.le_of_ble_eq_true rfl) fun hf => ?_
  by_cases h : l.length ≤ 40
  · have e1 : decide ((l.length : Int) ≤ 40) = true := decide_eq_true (by omega)
    have e : decide (each fitO l) = decide (∀ x ∈ l, fitO x) := dec_and h
    rw [e]
    simp only [sc49, e1, go_sem, reduceIte, reduceCtorEq, Nat.reduceAdd, Nat.reduceMul, Nat.reduceSub, Nat.reduceDiv, Nat.reduceMod, Nat.reduceLeDiff, Nat.reduceEqDiff, Nat.reduceBEq, Nat.reduceBNe, Int.reduceBEq, Int.reduceBNe, Int.reduceAdd, Int.reduceSub, Int.reduceMul, Int.reduceLE, Int.reduceLT, Int.reduceEq, Int.reduceNeg, Int.reduceToNat, Nat.reduceLT]
    refine CallC.os (sp_containsO l (by omega)) [0] ?_
    rintro v ρ' ⟨rfl, rfl⟩
    simp only [Bool.not_not, go_sem, reduceIte, reduceCtorEq, Nat.reduceAdd, Nat.reduceMul, Nat.reduceSub, Nat.reduceDiv, Nat.reduceMod, Nat.reduceLeDiff, Nat.reduceEqDiff, Nat.reduceBEq, Nat.reduceBNe, Int.reduceBEq, Int.reduceBNe, Int.reduceAdd, Int.reduceSub, Int.reduceMul, Int.reduceLE, Int.reduceLT, Int.reduceEq, Int.reduceNeg, Int.reduceToNat, Nat.reduceLT]
    refine RetC.bk [] ⟨rfl, rfl⟩
  · have e1 : decide ((l.length : Int) ≤ 40) = false := decide_eq_false (by omega)
    have e : decide (each fitO l) = false := dec_and_f h
    rw [e]
    simp only [sc49, e1, go_sem, reduceIte, reduceCtorEq, Nat.reduceAdd, Nat.reduceMul, Nat.reduceSub, Nat.reduceDiv, Nat.reduceMod, Nat.reduceLeDiff, Nat.reduceEqDiff, Nat.reduceBEq, Nat.reduceBNe, Int.reduceBEq, Int.reduceBNe, Int.reduceAdd, Int.reduceSub, Int.reduceMul, Int.reduceLE, Int.reduceLT, Int.reduceEq, Int.reduceNeg, Int.reduceToNat, Nat.reduceLT]
    refine RetC.bk [] ⟨rfl, rfl⟩
end Go.Proofs.Ytbhefgajgdcajaa

import Derived.Test.YtbhefgajgdcajaaSxShort
import Derived.Test.YtbhefgajgdcajaaEntBegun
set_option linter.unusedVariables false
set_option linter.unusedSimpArgs false
/- Which numbers fit: the document's. -/
namespace Go.Proofs.Ytbhefgajgdcajaa
open Sx
set_option maxRecDepth 100000
theorem shl_one {n : Nat} (hn : n ≤ 3) : (1 : Int) * 2 ^ min (8 * (n : Int)).toNat IntKind.i64.bits = 256 ^ n := by
  have h : n = 0 ∨ n = 1 ∨ n = 2 ∨ n = 3 := by omega
  rcases h with rfl | rfl | rfl | rfl <;> decide
theorem pow_small {n : Nat} (hn : n ≤ 3) : (256 : Int) ^ n ≤ 16777216 ∧ 0 ≤ (256 : Int) ^ n := by
  have h : n = 0 ∨ n = 1 ∨ n = 2 ∨ n = 3 := by omega
  rcases h with rfl | rfl | rfl | rfl <;> decide
theorem sp_rfits (v : Int) (n : Nat) (hn : n ≤ 3) : FSpec Try.prog 50 [iV v, iV n] [] (fun w ρ' => w = bV (decide (fit n v)) ∧ ρ' = []) := by
  refine FSpec.of follow Try.func50 c50 (Nat.le_of_ble_eq_true rfl) fun hf => ?_
  have h2 := pow_small hn
  by_cases h0 : v ≥ 0
  · have e : decide (v < 256 ^ n) = decide (fit n v) := decide_eq_decide.2 ⟨fun h => ⟨h0, h⟩, fun h => h.2⟩
    simp only [sc50, decide_eq_true h0, shl_one hn, e, wpC_skip, wpC_reg, wpC_draw, wpC_seq, wpC_block, wpC_cond, wpC_loop, wpC_exit, wpC_join, joinK_n, joinK_e, joinK_r, wpC_ret, seqK_n, seqK_e, seqK_r, blockK_n, blockK_e, blockK_r, Fs_nil, Fs_none, Fs_some, stepS_eq, Fc_nil, Fc_none, Fc_some, stepC_eq, opFn, ev, cval, lk, need, SV.nm, enumR, setS, setR, setRs, cellsOf, svOf, rget, spliceC, rset, src, oint, eqCells, cvs, fillC, rows, ints, svDest, keyOf2, ridC, widens, ibool, icalc, ibin, List.replicate, List.getD_cons_zero, List.getD_cons_succ, List.getD_nil, List.set_cons_zero, List.set_cons_succ, List.map_cons, List.map_nil, List.foldl_cons, List.foldl_nil, List.length_cons, List.length_nil, List.drop_zero, List.drop_succ_cons, List.drop_nil, List.take_succ_cons, List.take_zero, List.take_nil, List.cons_append, List.nil_append, List.append_nil, List.headD_cons, List.flatten_cons, List.flatten_nil, Option.map_some, Option.map_none, Option.getD_none, Option.getD_some, reduceIte, true_and, and_true, Nat.zero_add, Nat.add_zero, appFn, svRoom, sameO, beq_self_eq_true, Nat.zero_mul, Nat.mul_zero, Nat.sub_zero, Nat.zero_le, Nat.le_refl, and_self, reduceCtorEq, okB, Bool.not_false, Bool.true_or, Bool.false_or, Bool.not_true, List.all_nil, List.all_cons, Nat.reduceAdd, Nat.reduceMul, Nat.reduceSub, Nat.reduceDiv, Nat.reduceMod, Nat.reduceLeDiff, Nat.reduceEqDiff, Nat.reduceBEq, Nat.reduceBNe, Int.reduceBEq, Int.reduceBNe, Int.reduceAdd, Int.reduceSub, Int.reduceMul, Int.reduceLE, Int.reduceLT, Int.reduceEq, Int.reduceNeg, Int.reduceToNat, Int.toNat_zero, Int.toNat_one, CondC_true, CondC_false, beq_true, beq_false, Bool.not_true, Bool.not_false, opEn, callEn, skipEn, slotsOf, tmpsOf, SOp.operands, oo, free, disj, List.contains_cons, List.contains_nil, Option.toList_some, Option.toList_none, Bool.and_true, Bool.true_and, Bool.or_false, Bool.false_or, Bool.or_true, Bool.true_or, Bool.and_self, Bool.and_false, Bool.false_and, decide_true, decide_false, List.range'_succ, List.range'_zero, Nat.reduceLT, Int.toNat_natCast, Int.natCast_nonneg, Int.cast_ofNat_Int, ne_eq, not_false_eq_true]
    repeat (refine And.intro (by first | omega | (unfold inI64; omega) | (simp only [u8min, u8max, u16min, u16max, u32min, u32max]; omega)) ?_)
    refine RetC.bk [] ⟨rfl, rfl⟩
  · rw [decide_eq_false (show ¬ fit n v from fun h => h0 h.1)]
    simp only [sc50, decide_eq_false h0, wpC_skip, wpC_reg, wpC_draw, wpC_seq, wpC_block, wpC_cond, wpC_loop, wpC_exit, wpC_join, joinK_n, joinK_e, joinK_r, wpC_ret, seqK_n, seqK_e, seqK_r, blockK_n, blockK_e, blockK_r, Fs_nil, Fs_none, Fs_some, stepS_eq, Fc_nil, Fc_none, Fc_some, stepC_eq, opFn, ev, cval, lk, need, SV.nm, enumR, setS, setR, setRs, cellsOf, svOf, rget, spliceC, rset, src, oint, eqCells, cvs, fillC, rows, ints, svDest, keyOf2, ridC, widens, ibool, icalc, ibin, List.replicate, List.getD_cons_zero, List.getD_cons_succ, List.getD_nil, List.set_cons_zero, List.set_cons_succ, List.map_cons, List.map_nil, List.foldl_cons, List.foldl_nil, List.length_cons, List.length_nil, List.drop_zero, List.drop_succ_cons, List.drop_nil, List.take_succ_cons, List.take_zero, List.take_nil, List.cons_append, List.nil_append, List.append_nil, List.headD_cons, List.flatten_cons, List.flatten_nil, Option.map_some, Option.map_none, Option.getD_none, Option.getD_some, reduceIte, true_and, and_true, Nat.zero_add, Nat.add_zero, appFn, svRoom, sameO, beq_self_eq_true, Nat.zero_mul, Nat.mul_zero, Nat.sub_zero, Nat.zero_le, Nat.le_refl, and_self, reduceCtorEq, okB, Bool.not_false, Bool.true_or, Bool.false_or, Bool.not_true, List.all_nil, List.all_cons, Nat.reduceAdd, Nat.reduceMul, Nat.reduceSub, Nat.reduceDiv, Nat.reduceMod, Nat.reduceLeDiff, Nat.reduceEqDiff, Nat.reduceBEq, Nat.reduceBNe, Int.reduceBEq, Int.reduceBNe, Int.reduceAdd, Int.reduceSub, Int.reduceMul, Int.reduceLE, Int.reduceLT, Int.reduceEq, Int.reduceNeg, Int.reduceToNat, Int.toNat_zero, Int.toNat_one, CondC_true, CondC_false, beq_true, beq_false, Bool.not_true, Bool.not_false, opEn, callEn, skipEn, slotsOf, tmpsOf, SOp.operands, oo, free, disj, List.contains_cons, List.contains_nil, Option.toList_some, Option.toList_none, Bool.and_true, Bool.true_and, Bool.or_false, Bool.false_or, Bool.or_true, Bool.true_or, Bool.and_self, Bool.and_false, Bool.false_and, decide_true, decide_false, List.range'_succ, List.range'_zero, Nat.reduceLT, Int.toNat_natCast, Int.natCast_nonneg, Int.cast_ofNat_Int, ne_eq, not_false_eq_true]
    refine RetC.bk [] ⟨rfl, rfl⟩
end Go.Proofs.Ytbhefgajgdcajaa

/- Which entries may be: the document's. -/
namespace Go.Proofs.Ytbhefgajgdcajaa
open Sx
attribute [local go_sem] wpC_skip wpC_reg wpC_draw wpC_seq wpC_block wpC_cond wpC_loop wpC_exit wpC_join joinK_n joinK_e joinK_r wpC_ret seqK_n seqK_e seqK_r blockK_n blockK_e blockK_r Fs_nil Fs_none Fs_some stepS_eq Fc_nil Fc_none Fc_some stepC_eq opFn ev cval lk need SV.nm enumR setS setR setRs cellsOf svOf rget spliceC rset src oint eqCells cvs fillC rows ints svDest keyOf2 ridC widens ibool icalc ibin List.replicate List.getD_cons_zero List.getD_cons_succ List.getD_nil List.set_cons_zero List.set_cons_succ List.map_cons List.map_nil List.foldl_cons List.foldl_nil List.length_cons List.length_nil List.drop_zero List.drop_succ_cons List.drop_nil List.take_succ_cons List.take_zero List.take_nil List.cons_append List.nil_append List.append_nil List.headD_cons List.flatten_cons List.flatten_nil Option.map_some Option.map_none Option.getD_none Option.getD_some true_and and_true Nat.zero_add Nat.add_zero appFn svRoom sameO beq_self_eq_true Nat.zero_mul Nat.mul_zero Nat.sub_zero Nat.zero_le Nat.le_refl and_self okB Bool.not_false Bool.true_or Bool.false_or Bool.not_true List.all_nil List.all_cons Int.toNat_zero Int.toNat_one CondC_true CondC_false beq_true beq_false opEn callEn skipEn slotsOf tmpsOf SOp.operands oo free disj List.contains_cons List.contains_nil Option.toList_some Option.toList_none Bool.and_true Bool.true_and Bool.or_false Bool.or_true Bool.and_self Bool.and_false Bool.false_and decide_true decide_false List.range'_succ List.range'_zero Int.toNat_natCast Int.natCast_nonneg Int.cast_ofNat_Int ne_eq not_false_eq_true updGiven updNew getR muOf nuOf owned isRo List.range.loop List.filter SV.ren CV.ren CV.renL SV.renL Res.ren List.length List.idxOf? List.findIdx? List.findIdx?.go slotsW slotW disB List.range
set_option maxRecDepth 100000
theorem sp_rfitsRID (a b : Int) : FSpec Try.prog 51 [.agg [iC a, iC b]] [] (fun v ρ' => v = bV (decide (fit 1 a ∧ fit 1 b)) ∧ ρ' = []) := by
  have hs1 := sp_rfits a 1 (by omega)
  have hs2 := sp_rfits b 1 (by omega)
  refine FSpec.of follow Try.func51 c51 (Nat.le_of_ble_eq_true rfl) fun hf => ?_
  simp only [sc51, go_sem, reduceIte, reduceCtorEq, Nat.reduceAdd, Nat.reduceMul, Nat.reduceSub, Nat.reduceDiv, Nat.reduceMod, Nat.reduceLeDiff, Nat.reduceEqDiff, Nat.reduceBEq, Nat.reduceBNe, Int.reduceBEq, Int.reduceBNe, Int.reduceAdd, Int.reduceSub, Int.reduceMul, Int.reduceLE, Int.reduceLT, Int.reduceEq, Int.reduceNeg, Int.reduceToNat, Nat.reduceLT]
  by_cases h : fit 1 a
  · rw [dec_and h]
    rw [decide_eq_true h] at hs1
    refine CallC.os hs1 [] ?_
    rintro v ρ' ⟨rfl, rfl⟩
    simp only [go_sem, reduceIte, reduceCtorEq, Nat.reduceAdd, Nat.reduceMul, Nat.reduceSub, Nat.reduceDiv, Nat.reduceMod, Nat.reduceLeDiff, Nat.reduceEqDiff, Nat.reduceBEq, Nat.reduceBNe, Int.reduceBEq, Int.reduceBNe, Int.reduceAdd, Int.reduceSub, Int.reduceMul, Int.reduceLE, Int.reduceLT, Int.reduceEq, Int.reduceNeg, Int.reduceToNat, Nat.reduceLT]
    refine CallC.os hs2 [] ?_
    rintro v ρ' ⟨rfl, rfl⟩
    simp only [go_sem, reduceIte, reduceCtorEq, Nat.reduceAdd, Nat.reduceMul, Nat.reduceSub, Nat.reduceDiv, Nat.reduceMod, Nat.reduceLeDiff, Nat.reduceEqDiff, Nat.reduceBEq, Nat.reduceBNe, Int.reduceBEq, Int.reduceBNe, Int.reduceAdd, Int.reduceSub, Int.reduceMul, Int.reduceLE, Int.reduceLT, Int.reduceEq, Int.reduceNeg, Int.reduceToNat, Nat.reduceLT]
    refine RetC.bk [] ⟨rfl, rfl⟩
  · rw [dec_and_f h]
    rw [decide_eq_false h] at hs1
    refine CallC.os hs1 [] ?_
    rintro v ρ' ⟨rfl, rfl⟩
    simp only [go_sem, reduceIte, reduceCtorEq, Nat.reduceAdd, Nat.reduceMul, Nat.reduceSub, Nat.reduceDiv, Nat.reduceMod, Nat.reduceLeDiff, Nat.reduceEqDiff, Nat.reduceBEq, Nat.reduceBNe, Int.reduceBEq, Int.reduceBNe, Int.reduceAdd, Int.reduceSub, Int.reduceMul, Int.reduceLE, Int.reduceLT, Int.reduceEq, Int.reduceNeg, Int.reduceToNat, Nat.reduceLT]
    refine RetC.bk [] ⟨rfl, rfl⟩
set_option maxHeartbeats 4000000 in
theorem sp_rfitsMoves (l : List Mv) : FSpec Try.prog 52 [.cv (mvS l)] [] (fun v ρ' => v = bV (decide (each fitM l)) ∧ ρ' = []) := by
  obtain ⟨b, hb⟩ : ∃ b, decide (each fitM l) = b := ⟨_, rfl⟩
  rw [hb]
  refine FSpec.of follow Try.func52 c52 (Nat.le_of_ble_eq_true rfl) fun hf => ?_
  simp only [sc52, go_sem, reduceIte, reduceCtorEq, Nat.reduceAdd, Nat.reduceMul, Nat.reduceSub, Nat.reduceDiv, Nat.reduceMod, Nat.reduceLeDiff, Nat.reduceEqDiff, Nat.reduceBEq, Nat.reduceBNe, Int.reduceBEq, Int.reduceBNe, Int.reduceAdd, Int.reduceSub, Int.reduceMul, Int.reduceLE, Int.reduceLT, Int.reduceEq, Int.reduceNeg, Int.reduceToNat, Nat.reduceLT]
  refine LoopC.inv follow (fun i : Nat => ⟨mkSl 33 [(0, .cv (mvS l)), (3, iV i)], [], 0⟩)
    (fun i => i ≤ l.length ∧ i ≤ 41 ∧ ∀ x ∈ l.take i, fitM x) (fun i => 41 - i) 0 ⟨Nat.zero_le _, Nat.zero_le _, fun x hx => by cases hx⟩ (Weak.b [] 0) ?_
  rintro i ⟨hi, hi2, hl⟩
  simp only [mkSl, go_sem, reduceIte, reduceCtorEq, Nat.reduceAdd, Nat.reduceMul, Nat.reduceSub, Nat.reduceDiv, Nat.reduceMod, Nat.reduceLeDiff, Nat.reduceEqDiff, Nat.reduceBEq, Nat.reduceBNe, Int.reduceBEq, Int.reduceBNe, Int.reduceAdd, Int.reduceSub, Int.reduceMul, Int.reduceLE, Int.reduceLT, Int.reduceEq, Int.reduceNeg, Int.reduceToNat, Nat.reduceLT]
  have hend : (i = l.length ∨ i = 41) → decide ((l.length : Int) ≤ 40) = b := fun h => by
    rw [← hb]
    refine decide_eq_decide.2 ⟨fun h2 => ?_, fun h2 => by have := h2.1; omega⟩
    have : i = l.length := by omega
    rw [this, List.take_length] at hl
    exact ⟨by omega, hl⟩
  by_cases hc : (i : Int) < l.length
  case neg =>
    simp only [decide_eq_false hc, hend (by omega), go_sem, reduceIte, reduceCtorEq, Nat.reduceAdd, Nat.reduceMul, Nat.reduceSub, Nat.reduceDiv, Nat.reduceMod, Nat.reduceLeDiff, Nat.reduceEqDiff, Nat.reduceBEq, Nat.reduceBNe, Int.reduceBEq, Int.reduceBNe, Int.reduceAdd, Int.reduceSub, Int.reduceMul, Int.reduceLE, Int.reduceLT, Int.reduceEq, Int.reduceNeg, Int.reduceToNat, Nat.reduceLT]
    refine RetC.bk [] ⟨rfl, rfl⟩
  by_cases hd : (i : Int) < 41
  case neg =>
    simp only [decide_eq_true hc, decide_eq_false hd, hend (by omega), go_sem, reduceIte, reduceCtorEq, Nat.reduceAdd, Nat.reduceMul, Nat.reduceSub, Nat.reduceDiv, Nat.reduceMod, Nat.reduceLeDiff, Nat.reduceEqDiff, Nat.reduceBEq, Nat.reduceBNe, Int.reduceBEq, Int.reduceBNe, Int.reduceAdd, Int.reduceSub, Int.reduceMul, Int.reduceLE, Int.reduceLT, Int.reduceEq, Int.reduceNeg, Int.reduceToNat, Nat.reduceLT]
    refine RetC.bk [] ⟨rfl, rfl⟩
  have hc' : i < l.length := by omega
  have hbf : ¬ fitM (l.getD i (0, 0, 0, 0)) → b = false := fun h => by rw [← hb]; exact decide_eq_false fun k => h (k.2 _ (getD_mem hc' _))
  have hs1 := sp_rfitsRID (l.getD i (0, 0, 0, 0)).1 (l.getD i (0, 0, 0, 0)).2.1
  have hs2 := sp_rfitsRID (l.getD i (0, 0, 0, 0)).2.2.1 (l.getD i (0, 0, 0, 0)).2.2.2
  simp only [decide_eq_true hc, decide_eq_true hd, go_sem, reduceIte, reduceCtorEq, Nat.reduceAdd, Nat.reduceMul, Nat.reduceSub, Nat.reduceDiv, Nat.reduceMod, Nat.reduceLeDiff, Nat.reduceEqDiff, Nat.reduceBEq, Nat.reduceBNe, Int.reduceBEq, Int.reduceBNe, Int.reduceAdd, Int.reduceSub, Int.reduceMul, Int.reduceLE, Int.reduceLT, Int.reduceEq, Int.reduceNeg, Int.reduceToNat, Nat.reduceLT]
  repeat (refine And.intro (by first | omega | (unfold inI64; omega) | (simp only [u8min, u8max, u16min, u16max, u32min, u32max]; omega)) ?_)
  by_cases h1 : fit 1 (l.getD i (0, 0, 0, 0)).1 ∧ fit 1 (l.getD i (0, 0, 0, 0)).2.1
  case neg =>
    rw [decide_eq_false h1] at hs1
    obtain rfl := hbf fun k => h1 k.1
    refine CallC.os hs1 [] ?_
    rintro v ρ' ⟨rfl, rfl⟩
    simp only [go_sem, reduceIte, reduceCtorEq, Nat.reduceAdd, Nat.reduceMul, Nat.reduceSub, Nat.reduceDiv, Nat.reduceMod, Nat.reduceLeDiff, Nat.reduceEqDiff, Nat.reduceBEq, Nat.reduceBNe, Int.reduceBEq, Int.reduceBNe, Int.reduceAdd, Int.reduceSub, Int.reduceMul, Int.reduceLE, Int.reduceLT, Int.reduceEq, Int.reduceNeg, Int.reduceToNat, Nat.reduceLT]
    refine RetC.bk [] ⟨rfl, rfl⟩
  rw [decide_eq_true h1] at hs1
  refine CallC.os hs1 [] ?_
  rintro v ρ' ⟨rfl, rfl⟩
  simp only [go_sem, reduceIte, reduceCtorEq, Nat.reduceAdd, Nat.reduceMul, Nat.reduceSub, Nat.reduceDiv, Nat.reduceMod, Nat.reduceLeDiff, Nat.reduceEqDiff, Nat.reduceBEq, Nat.reduceBNe, Int.reduceBEq, Int.reduceBNe, Int.reduceAdd, Int.reduceSub, Int.reduceMul, Int.reduceLE, Int.reduceLT, Int.reduceEq, Int.reduceNeg, Int.reduceToNat, Nat.reduceLT]
  repeat (refine And.intro (by first | omega | (unfold inI64; omega) | (simp only [u8min, u8max, u16min, u16max, u32min, u32max]; omega)) ?_)
  by_cases h2 : fit 1 (l.getD i (0, 0, 0, 0)).2.2.1 ∧ fit 1 (l.getD i (0, 0, 0, 0)).2.2.2
  case neg =>
    rw [decide_eq_false h2] at hs2
    obtain rfl := hbf fun k => h2 k.2
    refine CallC.os hs2 [] ?_
    rintro v ρ' ⟨rfl, rfl⟩
    simp only [go_sem, reduceIte, reduceCtorEq, Nat.reduceAdd, Nat.reduceMul, Nat.reduceSub, Nat.reduceDiv, Nat.reduceMod, Nat.reduceLeDiff, Nat.reduceEqDiff, Nat.reduceBEq, Nat.reduceBNe, Int.reduceBEq, Int.reduceBNe, Int.reduceAdd, Int.reduceSub, Int.reduceMul, Int.reduceLE, Int.reduceLT, Int.reduceEq, Int.reduceNeg, Int.reduceToNat, Nat.reduceLT]
    refine RetC.bk [] ⟨rfl, rfl⟩
  rw [decide_eq_true h2] at hs2
  refine CallC.os hs2 [] ?_
  rintro v ρ' ⟨rfl, rfl⟩
  simp only [go_sem, reduceIte, reduceCtorEq, Nat.reduceAdd, Nat.reduceMul, Nat.reduceSub, Nat.reduceDiv, Nat.reduceMod, Nat.reduceLeDiff, Nat.reduceEqDiff, Nat.reduceBEq, Nat.reduceBNe, Int.reduceBEq, Int.reduceBNe, Int.reduceAdd, Int.reduceSub, Int.reduceMul, Int.reduceLE, Int.reduceLT, Int.reduceEq, Int.reduceNeg, Int.reduceToNat, Nat.reduceLT]
  repeat (refine And.intro (by first | omega | (unfold inI64; omega) | (simp only [u8min, u8max, u16min, u16max, u32min, u32max]; omega)) ?_)
  exact ⟨i + 1, ⟨by omega, by omega, all_take hc' hl ⟨h1, h2⟩⟩, by omega, Weak.b [] 0⟩
theorem imgB {l : List Int} (h : img l) : ∃ p q, ((l.length : Int) != 0) = p ∧ ((l.length : Int) != 26) = q ∧ (p = false ∨ p = true ∧ q = false) := by
  rcases h with h | h
  · exact ⟨_, _, rfl, rfl, .inl (by rw [h]; rfl)⟩
  · exact ⟨_, _, rfl, rfl, .inr ⟨by rw [h]; rfl, by rw [h]; rfl⟩⟩
theorem imgN {l : List Int} (h : ¬ img l) : ((l.length : Int) != 0) = true ∧ ((l.length : Int) != 26) = true := by
  have h1 : l.length ≠ 0 := fun k => h (.inl k)
  have h2 : l.length ≠ 26 := fun k => h (.inr k)
  constructor
  · rw [bne_iff_ne]; omega
  · rw [bne_iff_ne]; omega
set_option maxHeartbeats 40000000 in
theorem sp_rmayE (e : Ent) : FSpec Try.prog 15 [e.V] [] (fun v ρ' => (∃ b, v = bV b ∧ (b = true ↔ May e)) ∧ ρ' = []) := by
  refine FSpec.cut follow sd15 Try.func15 c15 e15 (Nat.le_of_ble_eq_true rfl) fun hf => ?_
  by_cases hk1 : e.k < 1
  · simp only [sd15, Ent.cells, decide_eq_true hk1, go_sem, reduceIte, reduceCtorEq, Nat.reduceAdd, Nat.reduceMul, Nat.reduceSub, Nat.reduceDiv, Nat.reduceMod, Nat.reduceLeDiff, Nat.reduceEqDiff, Nat.reduceBEq, Nat.reduceBNe, Int.reduceBEq, Int.reduceBNe, Int.reduceAdd, Int.reduceSub, Int.reduceMul, Int.reduceLE, Int.reduceLT, Int.reduceEq, Int.reduceNeg, Int.reduceToNat, Nat.reduceLT]
    refine RetC.bk [] ⟨⟨false, rfl, iff_of_false (by decide) fun h => by have := h.k.1; omega⟩, rfl⟩
  by_cases hk2 : e.k > 10
  · simp only [sd15, Ent.cells, decide_eq_false hk1, decide_eq_true hk2, go_sem, reduceIte, reduceCtorEq, Nat.reduceAdd, Nat.reduceMul, Nat.reduceSub, Nat.reduceDiv, Nat.reduceMod, Nat.reduceLeDiff, Nat.reduceEqDiff, Nat.reduceBEq, Nat.reduceBNe, Int.reduceBEq, Int.reduceBNe, Int.reduceAdd, Int.reduceSub, Int.reduceMul, Int.reduceLE, Int.reduceLT, Int.reduceEq, Int.reduceNeg, Int.reduceToNat, Nat.reduceLT]
    refine RetC.bk [] ⟨⟨false, rfl, iff_of_false (by decide) fun h => by have := h.k.2; omega⟩, rfl⟩
  simp only [sd15, Ent.cells, decide_eq_false hk1, decide_eq_false hk2, go_sem, reduceIte, reduceCtorEq, Nat.reduceAdd, Nat.reduceMul, Nat.reduceSub, Nat.reduceDiv, Nat.reduceMod, Nat.reduceLeDiff, Nat.reduceEqDiff, Nat.reduceBEq, Nat.reduceBNe, Int.reduceBEq, Int.reduceBNe, Int.reduceAdd, Int.reduceSub, Int.reduceMul, Int.reduceLE, Int.reduceLT, Int.reduceEq, Int.reduceNeg, Int.reduceToNat, Nat.reduceLT]
  by_cases ht : fit 1 e.t
  case neg =>
    have hs := sp_rfits e.t 1 (by omega)
    rw [decide_eq_false ht] at hs
    refine CallC.os hs [] ?_
    rintro v ρ' ⟨rfl, rfl⟩
    simp only [go_sem, reduceIte, reduceCtorEq, Nat.reduceAdd, Nat.reduceMul, Nat.reduceSub, Nat.reduceDiv, Nat.reduceMod, Nat.reduceLeDiff, Nat.reduceEqDiff, Nat.reduceBEq, Nat.reduceBNe, Int.reduceBEq, Int.reduceBNe, Int.reduceAdd, Int.reduceSub, Int.reduceMul, Int.reduceLE, Int.reduceLT, Int.reduceEq, Int.reduceNeg, Int.reduceToNat, Nat.reduceLT]
    refine RetC.bk [] ⟨⟨false, rfl, iff_of_false (by decide) fun h => ht h.t⟩, rfl⟩
  have sht := sp_rfits e.t 1 (by omega)
  rw [decide_eq_true ht] at sht
  refine CallC.os sht [] ?_
  rintro v ρ' ⟨rfl, rfl⟩
  simp only [go_sem, reduceIte, reduceCtorEq, Nat.reduceAdd, Nat.reduceMul, Nat.reduceSub, Nat.reduceDiv, Nat.reduceMod, Nat.reduceLeDiff, Nat.reduceEqDiff, Nat.reduceBEq, Nat.reduceBNe, Int.reduceBEq, Int.reduceBNe, Int.reduceAdd, Int.reduceSub, Int.reduceMul, Int.reduceLE, Int.reduceLT, Int.reduceEq, Int.reduceNeg, Int.reduceToNat, Nat.reduceLT]
  by_cases hu : fit 2 e.u
  case neg =>
    have hs := sp_rfits e.u 2 (by omega)
    rw [decide_eq_false hu] at hs
    refine CallC.os hs [] ?_
    rintro v ρ' ⟨rfl, rfl⟩
    simp only [go_sem, reduceIte, reduceCtorEq, Nat.reduceAdd, Nat.reduceMul, Nat.reduceSub, Nat.reduceDiv, Nat.reduceMod, Nat.reduceLeDiff, Nat.reduceEqDiff, Nat.reduceBEq, Nat.reduceBNe, Int.reduceBEq, Int.reduceBNe, Int.reduceAdd, Int.reduceSub, Int.reduceMul, Int.reduceLE, Int.reduceLT, Int.reduceEq, Int.reduceNeg, Int.reduceToNat, Nat.reduceLT]
    refine RetC.bk [] ⟨⟨false, rfl, iff_of_false (by decide) fun h => hu h.u⟩, rfl⟩
  have shu := sp_rfits e.u 2 (by omega)
  rw [decide_eq_true hu] at shu
  refine CallC.os shu [] ?_
  rintro v ρ' ⟨rfl, rfl⟩
  simp only [go_sem, reduceIte, reduceCtorEq, Nat.reduceAdd, Nat.reduceMul, Nat.reduceSub, Nat.reduceDiv, Nat.reduceMod, Nat.reduceLeDiff, Nat.reduceEqDiff, Nat.reduceBEq, Nat.reduceBNe, Int.reduceBEq, Int.reduceBNe, Int.reduceAdd, Int.reduceSub, Int.reduceMul, Int.reduceLE, Int.reduceLT, Int.reduceEq, Int.reduceNeg, Int.reduceToNat, Nat.reduceLT]
  by_cases hh : fit 1 e.h
  case neg =>
    have hs := sp_rfits e.h 1 (by omega)
    rw [decide_eq_false hh] at hs
    refine CallC.os hs [] ?_
    rintro v ρ' ⟨rfl, rfl⟩
    simp only [go_sem, reduceIte, reduceCtorEq, Nat.reduceAdd, Nat.reduceMul, Nat.reduceSub, Nat.reduceDiv, Nat.reduceMod, Nat.reduceLeDiff, Nat.reduceEqDiff, Nat.reduceBEq, Nat.reduceBNe, Int.reduceBEq, Int.reduceBNe, Int.reduceAdd, Int.reduceSub, Int.reduceMul, Int.reduceLE, Int.reduceLT, Int.reduceEq, Int.reduceNeg, Int.reduceToNat, Nat.reduceLT]
    refine RetC.bk [] ⟨⟨false, rfl, iff_of_false (by decide) fun h => hh h.h⟩, rfl⟩
  have shh := sp_rfits e.h 1 (by omega)
  rw [decide_eq_true hh] at shh
  refine CallC.os shh [] ?_
  rintro v ρ' ⟨rfl, rfl⟩
  simp only [go_sem, reduceIte, reduceCtorEq, Nat.reduceAdd, Nat.reduceMul, Nat.reduceSub, Nat.reduceDiv, Nat.reduceMod, Nat.reduceLeDiff, Nat.reduceEqDiff, Nat.reduceBEq, Nat.reduceBNe, Int.reduceBEq, Int.reduceBNe, Int.reduceAdd, Int.reduceSub, Int.reduceMul, Int.reduceLE, Int.reduceLT, Int.reduceEq, Int.reduceNeg, Int.reduceToNat, Nat.reduceLT]
  by_cases hp : fit 3 e.p
  case neg =>
    have hs := sp_rfits e.p 3 (by omega)
    rw [decide_eq_false hp] at hs
    refine CallC.os hs [] ?_
    rintro v ρ' ⟨rfl, rfl⟩
    simp only [go_sem, reduceIte, reduceCtorEq, Nat.reduceAdd, Nat.reduceMul, Nat.reduceSub, Nat.reduceDiv, Nat.reduceMod, Nat.reduceLeDiff, Nat.reduceEqDiff, Nat.reduceBEq, Nat.reduceBNe, Int.reduceBEq, Int.reduceBNe, Int.reduceAdd, Int.reduceSub, Int.reduceMul, Int.reduceLE, Int.reduceLT, Int.reduceEq, Int.reduceNeg, Int.reduceToNat, Nat.reduceLT]
    refine RetC.bk [] ⟨⟨false, rfl, iff_of_false (by decide) fun h => hp h.p⟩, rfl⟩
  have shp := sp_rfits e.p 3 (by omega)
  rw [decide_eq_true hp] at shp
  refine CallC.os shp [] ?_
  rintro v ρ' ⟨rfl, rfl⟩
  simp only [go_sem, reduceIte, reduceCtorEq, Nat.reduceAdd, Nat.reduceMul, Nat.reduceSub, Nat.reduceDiv, Nat.reduceMod, Nat.reduceLeDiff, Nat.reduceEqDiff, Nat.reduceBEq, Nat.reduceBNe, Int.reduceBEq, Int.reduceBNe, Int.reduceAdd, Int.reduceSub, Int.reduceMul, Int.reduceLE, Int.reduceLT, Int.reduceEq, Int.reduceNeg, Int.reduceToNat, Nat.reduceLT]
  by_cases hn : fit 3 e.n
  case neg =>
    have hs := sp_rfits e.n 3 (by omega)
    rw [decide_eq_false hn] at hs
    refine CallC.os hs [] ?_
    rintro v ρ' ⟨rfl, rfl⟩
    simp only [go_sem, reduceIte, reduceCtorEq, Nat.reduceAdd, Nat.reduceMul, Nat.reduceSub, Nat.reduceDiv, Nat.reduceMod, Nat.reduceLeDiff, Nat.reduceEqDiff, Nat.reduceBEq, Nat.reduceBNe, Int.reduceBEq, Int.reduceBNe, Int.reduceAdd, Int.reduceSub, Int.reduceMul, Int.reduceLE, Int.reduceLT, Int.reduceEq, Int.reduceNeg, Int.reduceToNat, Nat.reduceLT]
    refine RetC.bk [] ⟨⟨false, rfl, iff_of_false (by decide) fun h => hn h.n⟩, rfl⟩
  have shn := sp_rfits e.n 3 (by omega)
  rw [decide_eq_true hn] at shn
  refine CallC.os shn [] ?_
  rintro v ρ' ⟨rfl, rfl⟩
  simp only [go_sem, reduceIte, reduceCtorEq, Nat.reduceAdd, Nat.reduceMul, Nat.reduceSub, Nat.reduceDiv, Nat.reduceMod, Nat.reduceLeDiff, Nat.reduceEqDiff, Nat.reduceBEq, Nat.reduceBNe, Int.reduceBEq, Int.reduceBNe, Int.reduceAdd, Int.reduceSub, Int.reduceMul, Int.reduceLE, Int.reduceLT, Int.reduceEq, Int.reduceNeg, Int.reduceToNat, Nat.reduceLT]
  by_cases ha : fit 1 e.a ∧ fit 1 e.b
  case neg =>
    have hs := sp_rfitsRID e.a e.b
    rw [decide_eq_false ha] at hs
    refine CallC.os hs [] ?_
    rintro v ρ' ⟨rfl, rfl⟩
    simp only [go_sem, reduceIte, reduceCtorEq, Nat.reduceAdd, Nat.reduceMul, Nat.reduceSub, Nat.reduceDiv, Nat.reduceMod, Nat.reduceLeDiff, Nat.reduceEqDiff, Nat.reduceBEq, Nat.reduceBNe, Int.reduceBEq, Int.reduceBNe, Int.reduceAdd, Int.reduceSub, Int.reduceMul, Int.reduceLE, Int.reduceLT, Int.reduceEq, Int.reduceNeg, Int.reduceToNat, Nat.reduceLT]
    refine RetC.bk [] ⟨⟨false, rfl, iff_of_false (by decide) fun h => ha ⟨h.a, h.b⟩⟩, rfl⟩
  have sha := sp_rfitsRID e.a e.b
  rw [decide_eq_true ha] at sha
  refine CallC.os sha [] ?_
  rintro v ρ' ⟨rfl, rfl⟩
  simp only [go_sem, reduceIte, reduceCtorEq, Nat.reduceAdd, Nat.reduceMul, Nat.reduceSub, Nat.reduceDiv, Nat.reduceMod, Nat.reduceLeDiff, Nat.reduceEqDiff, Nat.reduceBEq, Nat.reduceBNe, Int.reduceBEq, Int.reduceBNe, Int.reduceAdd, Int.reduceSub, Int.reduceMul, Int.reduceLE, Int.reduceLT, Int.reduceEq, Int.reduceNeg, Int.reduceToNat, Nat.reduceLT]
  by_cases hc0 : fit 1 e.c ∧ fit 1 e.d
  case neg =>
    have hs := sp_rfitsRID e.c e.d
    rw [decide_eq_false hc0] at hs
    refine CallC.os hs [] ?_
    rintro v ρ' ⟨rfl, rfl⟩
    simp only [go_sem, reduceIte, reduceCtorEq, Nat.reduceAdd, Nat.reduceMul, Nat.reduceSub, Nat.reduceDiv, Nat.reduceMod, Nat.reduceLeDiff, Nat.reduceEqDiff, Nat.reduceBEq, Nat.reduceBNe, Int.reduceBEq, Int.reduceBNe, Int.reduceAdd, Int.reduceSub, Int.reduceMul, Int.reduceLE, Int.reduceLT, Int.reduceEq, Int.reduceNeg, Int.reduceToNat, Nat.reduceLT]
    refine RetC.bk [] ⟨⟨false, rfl, iff_of_false (by decide) fun h => hc0 ⟨h.c, h.d⟩⟩, rfl⟩
  have shc := sp_rfitsRID e.c e.d
  rw [decide_eq_true hc0] at shc
  refine CallC.os shc [] ?_
  rintro v ρ' ⟨rfl, rfl⟩
  simp only [go_sem, reduceIte, reduceCtorEq, Nat.reduceAdd, Nat.reduceMul, Nat.reduceSub, Nat.reduceDiv, Nat.reduceMod, Nat.reduceLeDiff, Nat.reduceEqDiff, Nat.reduceBEq, Nat.reduceBNe, Int.reduceBEq, Int.reduceBNe, Int.reduceAdd, Int.reduceSub, Int.reduceMul, Int.reduceLE, Int.reduceLT, Int.reduceEq, Int.reduceNeg, Int.reduceToNat, Nat.reduceLT]
  refine JoinC.of follow (fun _ : Unit => ⟨mkSl 197 [(1, .cv (.ptr 0 0 0 0))], [(0, .cells e.cells)], 1⟩) (fun _ => (img e.o ∧ img e.w ∧ each fitM e.m) ∧ e.l.length ≤ 40 ∧ e.y.length ≤ 40 ∧ e.q.length ≤ 40) ?_ ?_
  rotate_left
  · rintro ⟨⟩ ⟨⟨ho, hw, hm⟩, hzl, hzy, hzq⟩
    simp only [mkSl, Ent.cells, go_sem, reduceIte, reduceCtorEq, Nat.reduceAdd, Nat.reduceMul, Nat.reduceSub, Nat.reduceDiv, Nat.reduceMod, Nat.reduceLeDiff, Nat.reduceEqDiff, Nat.reduceBEq, Nat.reduceBNe, Int.reduceBEq, Int.reduceBNe, Int.reduceAdd, Int.reduceSub, Int.reduceMul, Int.reduceLE, Int.reduceLT, Int.reduceEq, Int.reduceNeg, Int.reduceToNat, Nat.reduceLT]
    refine LoopC.inv follow (fun i : Nat => ⟨mkSl 197 [(1, .cv (.ptr 0 0 0 0)), (3, iV i)], [(0, .cells e.cells)], 1⟩)
      (fun i => i ≤ e.l.length ∧ ∀ x ∈ e.l.take i, fitL x) (fun i => e.l.length - i) 0 ⟨Nat.zero_le _, fun x hx => by cases hx⟩ (Weak.b [0] 0) ?_
    rintro il ⟨hil, hll⟩
    simp only [mkSl, Ent.cells, go_sem, reduceIte, reduceCtorEq, Nat.reduceAdd, Nat.reduceMul, Nat.reduceSub, Nat.reduceDiv, Nat.reduceMod, Nat.reduceLeDiff, Nat.reduceEqDiff, Nat.reduceBEq, Nat.reduceBNe, Int.reduceBEq, Int.reduceBNe, Int.reduceAdd, Int.reduceSub, Int.reduceMul, Int.reduceLE, Int.reduceLT, Int.reduceEq, Int.reduceNeg, Int.reduceToNat, Nat.reduceLT]
    refine CondC.of (fun hc => ?_) (fun hc => ?_)
    · simp only [decide_eq_true_eq] at hc
      have hc' : il < e.l.length := by omega
      simp only [go_sem, reduceIte, reduceCtorEq, Nat.reduceAdd, Nat.reduceMul, Nat.reduceSub, Nat.reduceDiv, Nat.reduceMod, Nat.reduceLeDiff, Nat.reduceEqDiff, Nat.reduceBEq, Nat.reduceBNe, Int.reduceBEq, Int.reduceBNe, Int.reduceAdd, Int.reduceSub, Int.reduceMul, Int.reduceLE, Int.reduceLT, Int.reduceEq, Int.reduceNeg, Int.reduceToNat, Nat.reduceLT]
      repeat (refine And.intro (by first | omega | (unfold inI64; omega) | (simp only [u8min, u8max, u16min, u16max, u32min, u32max]; omega)) ?_)
      by_cases g1 : fit 1 (e.l.getD il (0, 0, 0, false)).1
      case neg =>
        have hs := sp_rfits (e.l.getD il (0, 0, 0, false)).1 1 (by omega)
        rw [decide_eq_false g1] at hs
        refine CallC.os hs [] ?_
        rintro v ρ' ⟨rfl, rfl⟩
        simp only [go_sem, reduceIte, reduceCtorEq, Nat.reduceAdd, Nat.reduceMul, Nat.reduceSub, Nat.reduceDiv, Nat.reduceMod, Nat.reduceLeDiff, Nat.reduceEqDiff, Nat.reduceBEq, Nat.reduceBNe, Int.reduceBEq, Int.reduceBNe, Int.reduceAdd, Int.reduceSub, Int.reduceMul, Int.reduceLE, Int.reduceLT, Int.reduceEq, Int.reduceNeg, Int.reduceToNat, Nat.reduceLT]
        refine RetC.bk [] ⟨⟨false, rfl, iff_of_false (by decide) fun h => g1 (h.l.2 _ (getD_mem hc' _)).1⟩, rfl⟩
      have sg1 := sp_rfits (e.l.getD il (0, 0, 0, false)).1 1 (by omega)
      rw [decide_eq_true g1] at sg1
      refine CallC.os sg1 [] ?_
      rintro v ρ' ⟨rfl, rfl⟩
      simp only [go_sem, reduceIte, reduceCtorEq, Nat.reduceAdd, Nat.reduceMul, Nat.reduceSub, Nat.reduceDiv, Nat.reduceMod, Nat.reduceLeDiff, Nat.reduceEqDiff, Nat.reduceBEq, Nat.reduceBNe, Int.reduceBEq, Int.reduceBNe, Int.reduceAdd, Int.reduceSub, Int.reduceMul, Int.reduceLE, Int.reduceLT, Int.reduceEq, Int.reduceNeg, Int.reduceToNat, Nat.reduceLT]
      repeat (refine And.intro (by first | omega | (unfold inI64; omega) | (simp only [u8min, u8max, u16min, u16max, u32min, u32max]; omega)) ?_)
      by_cases g2 : fit 3 (e.l.getD il (0, 0, 0, false)).2.1
      case neg =>
        have hs := sp_rfits (e.l.getD il (0, 0, 0, false)).2.1 3 (by omega)
        rw [decide_eq_false g2] at hs
        refine CallC.os hs [] ?_
        rintro v ρ' ⟨rfl, rfl⟩
        simp only [go_sem, reduceIte, reduceCtorEq, Nat.reduceAdd, Nat.reduceMul, Nat.reduceSub, Nat.reduceDiv, Nat.reduceMod, Nat.reduceLeDiff, Nat.reduceEqDiff, Nat.reduceBEq, Nat.reduceBNe, Int.reduceBEq, Int.reduceBNe, Int.reduceAdd, Int.reduceSub, Int.reduceMul, Int.reduceLE, Int.reduceLT, Int.reduceEq, Int.reduceNeg, Int.reduceToNat, Nat.reduceLT]
        refine RetC.bk [] ⟨⟨false, rfl, iff_of_false (by decide) fun h => g2 (h.l.2 _ (getD_mem hc' _)).2.1⟩, rfl⟩
      have sg2 := sp_rfits (e.l.getD il (0, 0, 0, false)).2.1 3 (by omega)
      rw [decide_eq_true g2] at sg2
      refine CallC.os sg2 [] ?_
      rintro v ρ' ⟨rfl, rfl⟩
      simp only [go_sem, reduceIte, reduceCtorEq, Nat.reduceAdd, Nat.reduceMul, Nat.reduceSub, Nat.reduceDiv, Nat.reduceMod, Nat.reduceLeDiff, Nat.reduceEqDiff, Nat.reduceBEq, Nat.reduceBNe, Int.reduceBEq, Int.reduceBNe, Int.reduceAdd, Int.reduceSub, Int.reduceMul, Int.reduceLE, Int.reduceLT, Int.reduceEq, Int.reduceNeg, Int.reduceToNat, Nat.reduceLT]
      repeat (refine And.intro (by first | omega | (unfold inI64; omega) | (simp only [u8min, u8max, u16min, u16max, u32min, u32max]; omega)) ?_)
      by_cases g3 : fit 3 (e.l.getD il (0, 0, 0, false)).2.2.1
      case neg =>
        have hs := sp_rfits (e.l.getD il (0, 0, 0, false)).2.2.1 3 (by omega)
        rw [decide_eq_false g3] at hs
        refine CallC.os hs [] ?_
        rintro v ρ' ⟨rfl, rfl⟩
        simp only [go_sem, reduceIte, reduceCtorEq, Nat.reduceAdd, Nat.reduceMul, Nat.reduceSub, Nat.reduceDiv, Nat.reduceMod, Nat.reduceLeDiff, Nat.reduceEqDiff, Nat.reduceBEq, Nat.reduceBNe, Int.reduceBEq, Int.reduceBNe, Int.reduceAdd, Int.reduceSub, Int.reduceMul, Int.reduceLE, Int.reduceLT, Int.reduceEq, Int.reduceNeg, Int.reduceToNat, Nat.reduceLT]
        refine RetC.bk [] ⟨⟨false, rfl, iff_of_false (by decide) fun h => g3 (h.l.2 _ (getD_mem hc' _)).2.2⟩, rfl⟩
      have sg3 := sp_rfits (e.l.getD il (0, 0, 0, false)).2.2.1 3 (by omega)
      rw [decide_eq_true g3] at sg3
      refine CallC.os sg3 [] ?_
      rintro v ρ' ⟨rfl, rfl⟩
      simp only [go_sem, reduceIte, reduceCtorEq, Nat.reduceAdd, Nat.reduceMul, Nat.reduceSub, Nat.reduceDiv, Nat.reduceMod, Nat.reduceLeDiff, Nat.reduceEqDiff, Nat.reduceBEq, Nat.reduceBNe, Int.reduceBEq, Int.reduceBNe, Int.reduceAdd, Int.reduceSub, Int.reduceMul, Int.reduceLE, Int.reduceLT, Int.reduceEq, Int.reduceNeg, Int.reduceToNat, Nat.reduceLT]
      repeat (refine And.intro (by first | omega | (unfold inI64; omega) | (simp only [u8min, u8max, u16min, u16max, u32min, u32max]; omega)) ?_)
      exact ⟨il + 1, ⟨by omega, all_take hc' hll ⟨g1, g2, g3⟩⟩, by omega, Weak.b [0] 0⟩
    simp only [decide_eq_false_iff_not] at hc
    have hel : ∀ x ∈ e.l, fitL x := by
      obtain rfl : il = e.l.length := by omega
      rwa [List.take_length] at hll
    clear hll
    simp only [go_sem, reduceIte, reduceCtorEq, Nat.reduceAdd, Nat.reduceMul, Nat.reduceSub, Nat.reduceDiv, Nat.reduceMod, Nat.reduceLeDiff, Nat.reduceEqDiff, Nat.reduceBEq, Nat.reduceBNe, Int.reduceBEq, Int.reduceBNe, Int.reduceAdd, Int.reduceSub, Int.reduceMul, Int.reduceLE, Int.reduceLT, Int.reduceEq, Int.reduceNeg, Int.reduceToNat, Nat.reduceLT]
    refine LoopC.inv follow (fun i : Nat => ⟨mkSl 197 [(1, .cv (.ptr 0 0 0 0)), (4, iV i)], [(0, .cells e.cells)], 1⟩)
      (fun i => i ≤ e.y.length ∧ ∀ x ∈ e.y.take i, fitD x) (fun i => e.y.length - i) 0 ⟨Nat.zero_le _, fun x hx => by cases hx⟩ (Weak.b [0] 0) ?_
    rintro iy ⟨hiy, hly⟩
    simp only [mkSl, Ent.cells, go_sem, reduceIte, reduceCtorEq, Nat.reduceAdd, Nat.reduceMul, Nat.reduceSub, Nat.reduceDiv, Nat.reduceMod, Nat.reduceLeDiff, Nat.reduceEqDiff, Nat.reduceBEq, Nat.reduceBNe, Int.reduceBEq, Int.reduceBNe, Int.reduceAdd, Int.reduceSub, Int.reduceMul, Int.reduceLE, Int.reduceLT, Int.reduceEq, Int.reduceNeg, Int.reduceToNat, Nat.reduceLT]
    refine CondC.of (fun hc => ?_) (fun hc => ?_)
    · simp only [decide_eq_true_eq] at hc
      have hc' : iy < e.y.length := by omega
      simp only [go_sem, reduceIte, reduceCtorEq, Nat.reduceAdd, Nat.reduceMul, Nat.reduceSub, Nat.reduceDiv, Nat.reduceMod, Nat.reduceLeDiff, Nat.reduceEqDiff, Nat.reduceBEq, Nat.reduceBNe, Int.reduceBEq, Int.reduceBNe, Int.reduceAdd, Int.reduceSub, Int.reduceMul, Int.reduceLE, Int.reduceLT, Int.reduceEq, Int.reduceNeg, Int.reduceToNat, Nat.reduceLT]
      repeat (refine And.intro (by first | omega | (unfold inI64; omega) | (simp only [u8min, u8max, u16min, u16max, u32min, u32max]; omega)) ?_)
      by_cases g1 : fit 1 (e.y.getD iy (0, 0)).1
      case neg =>
        have hs := sp_rfits (e.y.getD iy (0, 0)).1 1 (by omega)
        rw [decide_eq_false g1] at hs
        refine CallC.os hs [] ?_
        rintro v ρ' ⟨rfl, rfl⟩
        simp only [go_sem, reduceIte, reduceCtorEq, Nat.reduceAdd, Nat.reduceMul, Nat.reduceSub, Nat.reduceDiv, Nat.reduceMod, Nat.reduceLeDiff, Nat.reduceEqDiff, Nat.reduceBEq, Nat.reduceBNe, Int.reduceBEq, Int.reduceBNe, Int.reduceAdd, Int.reduceSub, Int.reduceMul, Int.reduceLE, Int.reduceLT, Int.reduceEq, Int.reduceNeg, Int.reduceToNat, Nat.reduceLT]
        refine RetC.bk [] ⟨⟨false, rfl, iff_of_false (by decide) fun h => g1 (h.y.2 _ (getD_mem hc' _)).1⟩, rfl⟩
      have sg1 := sp_rfits (e.y.getD iy (0, 0)).1 1 (by omega)
      rw [decide_eq_true g1] at sg1
      refine CallC.os sg1 [] ?_
      rintro v ρ' ⟨rfl, rfl⟩
      simp only [go_sem, reduceIte, reduceCtorEq, Nat.reduceAdd, Nat.reduceMul, Nat.reduceSub, Nat.reduceDiv, Nat.reduceMod, Nat.reduceLeDiff, Nat.reduceEqDiff, Nat.reduceBEq, Nat.reduceBNe, Int.reduceBEq, Int.reduceBNe, Int.reduceAdd, Int.reduceSub, Int.reduceMul, Int.reduceLE, Int.reduceLT, Int.reduceEq, Int.reduceNeg, Int.reduceToNat, Nat.reduceLT]
      repeat (refine And.intro (by first | omega | (unfold inI64; omega) | (simp only [u8min, u8max, u16min, u16max, u32min, u32max]; omega)) ?_)
      by_cases g2 : fit 3 (e.y.getD iy (0, 0)).2
      case neg =>
        have hs := sp_rfits (e.y.getD iy (0, 0)).2 3 (by omega)
        rw [decide_eq_false g2] at hs
        refine CallC.os hs [] ?_
        rintro v ρ' ⟨rfl, rfl⟩
        simp only [go_sem, reduceIte, reduceCtorEq, Nat.reduceAdd, Nat.reduceMul, Nat.reduceSub, Nat.reduceDiv, Nat.reduceMod, Nat.reduceLeDiff, Nat.reduceEqDiff, Nat.reduceBEq, Nat.reduceBNe, Int.reduceBEq, Int.reduceBNe, Int.reduceAdd, Int.reduceSub, Int.reduceMul, Int.reduceLE, Int.reduceLT, Int.reduceEq, Int.reduceNeg, Int.reduceToNat, Nat.reduceLT]
        refine RetC.bk [] ⟨⟨false, rfl, iff_of_false (by decide) fun h => g2 (h.y.2 _ (getD_mem hc' _)).2⟩, rfl⟩
      have sg2 := sp_rfits (e.y.getD iy (0, 0)).2 3 (by omega)
      rw [decide_eq_true g2] at sg2
      refine CallC.os sg2 [] ?_
      rintro v ρ' ⟨rfl, rfl⟩
      simp only [go_sem, reduceIte, reduceCtorEq, Nat.reduceAdd, Nat.reduceMul, Nat.reduceSub, Nat.reduceDiv, Nat.reduceMod, Nat.reduceLeDiff, Nat.reduceEqDiff, Nat.reduceBEq, Nat.reduceBNe, Int.reduceBEq, Int.reduceBNe, Int.reduceAdd, Int.reduceSub, Int.reduceMul, Int.reduceLE, Int.reduceLT, Int.reduceEq, Int.reduceNeg, Int.reduceToNat, Nat.reduceLT]
      repeat (refine And.intro (by first | omega | (unfold inI64; omega) | (simp only [u8min, u8max, u16min, u16max, u32min, u32max]; omega)) ?_)
      exact ⟨iy + 1, ⟨by omega, all_take hc' hly ⟨g1, g2⟩⟩, by omega, Weak.b [0] 0⟩
    simp only [decide_eq_false_iff_not] at hc
    have hey : ∀ x ∈ e.y, fitD x := by
      obtain rfl : iy = e.y.length := by omega
      rwa [List.take_length] at hly
    clear hly
    simp only [go_sem, reduceIte, reduceCtorEq, Nat.reduceAdd, Nat.reduceMul, Nat.reduceSub, Nat.reduceDiv, Nat.reduceMod, Nat.reduceLeDiff, Nat.reduceEqDiff, Nat.reduceBEq, Nat.reduceBNe, Int.reduceBEq, Int.reduceBNe, Int.reduceAdd, Int.reduceSub, Int.reduceMul, Int.reduceLE, Int.reduceLT, Int.reduceEq, Int.reduceNeg, Int.reduceToNat, Nat.reduceLT]
    refine LoopC.inv follow (fun i : Nat => ⟨mkSl 197 [(1, .cv (.ptr 0 0 0 0)), (5, iV i)], [(0, .cells e.cells)], 1⟩)
      (fun i => i ≤ e.q.length ∧ ∀ x ∈ e.q.take i, fitO x) (fun i => e.q.length - i) 0 ⟨Nat.zero_le _, fun x hx => by cases hx⟩ (Weak.b [0] 0) ?_
    rintro iq ⟨hiq, hlq⟩
    simp only [mkSl, Ent.cells, go_sem, reduceIte, reduceCtorEq, Nat.reduceAdd, Nat.reduceMul, Nat.reduceSub, Nat.reduceDiv, Nat.reduceMod, Nat.reduceLeDiff, Nat.reduceEqDiff, Nat.reduceBEq, Nat.reduceBNe, Int.reduceBEq, Int.reduceBNe, Int.reduceAdd, Int.reduceSub, Int.reduceMul, Int.reduceLE, Int.reduceLT, Int.reduceEq, Int.reduceNeg, Int.reduceToNat, Nat.reduceLT]
    refine CondC.of (fun hc => ?_) (fun hc => ?_)
    · simp only [decide_eq_true_eq] at hc
      have hc' : iq < e.q.length := by omega
      simp only [go_sem, reduceIte, reduceCtorEq, Nat.reduceAdd, Nat.reduceMul, Nat.reduceSub, Nat.reduceDiv, Nat.reduceMod, Nat.reduceLeDiff, Nat.reduceEqDiff, Nat.reduceBEq, Nat.reduceBNe, Int.reduceBEq, Int.reduceBNe, Int.reduceAdd, Int.reduceSub, Int.reduceMul, Int.reduceLE, Int.reduceLT, Int.reduceEq, Int.reduceNeg, Int.reduceToNat, Nat.reduceLT]
      repeat (refine And.intro (by first | omega | (unfold inI64; omega) | (simp only [u8min, u8max, u16min, u16max, u32min, u32max]; omega)) ?_)
      by_cases g1 : fit 2 (e.q.getD iq (0, 0, [])).1
      case neg =>
        have hs := sp_rfits (e.q.getD iq (0, 0, [])).1 2 (by omega)
        rw [decide_eq_false g1] at hs
        refine CallC.os hs [] ?_
        rintro v ρ' ⟨rfl, rfl⟩
        simp only [go_sem, reduceIte, reduceCtorEq, Nat.reduceAdd, Nat.reduceMul, Nat.reduceSub, Nat.reduceDiv, Nat.reduceMod, Nat.reduceLeDiff, Nat.reduceEqDiff, Nat.reduceBEq, Nat.reduceBNe, Int.reduceBEq, Int.reduceBNe, Int.reduceAdd, Int.reduceSub, Int.reduceMul, Int.reduceLE, Int.reduceLT, Int.reduceEq, Int.reduceNeg, Int.reduceToNat, Nat.reduceLT]
        refine RetC.bk [] ⟨⟨false, rfl, iff_of_false (by decide) fun h => g1 (h.q.2 _ (getD_mem hc' _)).1⟩, rfl⟩
      have sg1 := sp_rfits (e.q.getD iq (0, 0, [])).1 2 (by omega)
      rw [decide_eq_true g1] at sg1
      refine CallC.os sg1 [] ?_
      rintro v ρ' ⟨rfl, rfl⟩
      simp only [go_sem, reduceIte, reduceCtorEq, Nat.reduceAdd, Nat.reduceMul, Nat.reduceSub, Nat.reduceDiv, Nat.reduceMod, Nat.reduceLeDiff, Nat.reduceEqDiff, Nat.reduceBEq, Nat.reduceBNe, Int.reduceBEq, Int.reduceBNe, Int.reduceAdd, Int.reduceSub, Int.reduceMul, Int.reduceLE, Int.reduceLT, Int.reduceEq, Int.reduceNeg, Int.reduceToNat, Nat.reduceLT]
      repeat (refine And.intro (by first | omega | (unfold inI64; omega) | (simp only [u8min, u8max, u16min, u16max, u32min, u32max]; omega)) ?_)
      by_cases g2 : fit 1 (e.q.getD iq (0, 0, [])).2.1
      case neg =>
        have hs := sp_rfits (e.q.getD iq (0, 0, [])).2.1 1 (by omega)
        rw [decide_eq_false g2] at hs
        refine CallC.os hs [] ?_
        rintro v ρ' ⟨rfl, rfl⟩
        simp only [go_sem, reduceIte, reduceCtorEq, Nat.reduceAdd, Nat.reduceMul, Nat.reduceSub, Nat.reduceDiv, Nat.reduceMod, Nat.reduceLeDiff, Nat.reduceEqDiff, Nat.reduceBEq, Nat.reduceBNe, Int.reduceBEq, Int.reduceBNe, Int.reduceAdd, Int.reduceSub, Int.reduceMul, Int.reduceLE, Int.reduceLT, Int.reduceEq, Int.reduceNeg, Int.reduceToNat, Nat.reduceLT]
        refine RetC.bk [] ⟨⟨false, rfl, iff_of_false (by decide) fun h => g2 (h.q.2 _ (getD_mem hc' _)).2.1⟩, rfl⟩
      have sg2 := sp_rfits (e.q.getD iq (0, 0, [])).2.1 1 (by omega)
      rw [decide_eq_true g2] at sg2
      refine CallC.os sg2 [] ?_
      rintro v ρ' ⟨rfl, rfl⟩
      simp only [go_sem, reduceIte, reduceCtorEq, Nat.reduceAdd, Nat.reduceMul, Nat.reduceSub, Nat.reduceDiv, Nat.reduceMod, Nat.reduceLeDiff, Nat.reduceEqDiff, Nat.reduceBEq, Nat.reduceBNe, Int.reduceBEq, Int.reduceBNe, Int.reduceAdd, Int.reduceSub, Int.reduceMul, Int.reduceLE, Int.reduceLT, Int.reduceEq, Int.reduceNeg, Int.reduceToNat, Nat.reduceLT]
      repeat (refine And.intro (by first | omega | (unfold inI64; omega) | (simp only [u8min, u8max, u16min, u16max, u32min, u32max]; omega)) ?_)
      by_cases g3 : each fitM (e.q.getD iq (0, 0, [])).2.2
      case neg =>
        have hs := sp_rfitsMoves (e.q.getD iq (0, 0, [])).2.2
        rw [decide_eq_false g3] at hs
        refine CallC.os hs [] ?_
        rintro v ρ' ⟨rfl, rfl⟩
        simp only [go_sem, reduceIte, reduceCtorEq, Nat.reduceAdd, Nat.reduceMul, Nat.reduceSub, Nat.reduceDiv, Nat.reduceMod, Nat.reduceLeDiff, Nat.reduceEqDiff, Nat.reduceBEq, Nat.reduceBNe, Int.reduceBEq, Int.reduceBNe, Int.reduceAdd, Int.reduceSub, Int.reduceMul, Int.reduceLE, Int.reduceLT, Int.reduceEq, Int.reduceNeg, Int.reduceToNat, Nat.reduceLT]
        refine RetC.bk [] ⟨⟨false, rfl, iff_of_false (by decide) fun h => g3 (h.q.2 _ (getD_mem hc' _)).2.2⟩, rfl⟩
      have sg3 := sp_rfitsMoves (e.q.getD iq (0, 0, [])).2.2
      rw [decide_eq_true g3] at sg3
      refine CallC.os sg3 [] ?_
      rintro v ρ' ⟨rfl, rfl⟩
      simp only [go_sem, reduceIte, reduceCtorEq, Nat.reduceAdd, Nat.reduceMul, Nat.reduceSub, Nat.reduceDiv, Nat.reduceMod, Nat.reduceLeDiff, Nat.reduceEqDiff, Nat.reduceBEq, Nat.reduceBNe, Int.reduceBEq, Int.reduceBNe, Int.reduceAdd, Int.reduceSub, Int.reduceMul, Int.reduceLE, Int.reduceLT, Int.reduceEq, Int.reduceNeg, Int.reduceToNat, Nat.reduceLT]
      repeat (refine And.intro (by first | omega | (unfold inI64; omega) | (simp only [u8min, u8max, u16min, u16max, u32min, u32max]; omega)) ?_)
      exact ⟨iq + 1, ⟨by omega, all_take hc' hlq ⟨g1, g2, g3⟩⟩, by omega, Weak.b [0] 0⟩
    simp only [decide_eq_false_iff_not] at hc
    have heq : ∀ x ∈ e.q, fitO x := by
      obtain rfl : iq = e.q.length := by omega
      rwa [List.take_length] at hlq
    clear hlq
    simp only [go_sem, reduceIte, reduceCtorEq, Nat.reduceAdd, Nat.reduceMul, Nat.reduceSub, Nat.reduceDiv, Nat.reduceMod, Nat.reduceLeDiff, Nat.reduceEqDiff, Nat.reduceBEq, Nat.reduceBNe, Int.reduceBEq, Int.reduceBNe, Int.reduceAdd, Int.reduceSub, Int.reduceMul, Int.reduceLE, Int.reduceLT, Int.reduceEq, Int.reduceNeg, Int.reduceToNat, Nat.reduceLT]
    refine RetC.bk [] ⟨⟨true, rfl, iff_of_true rfl ⟨⟨by omega, by omega⟩, ht, hh, hu, hp, hn, ha.1, ha.2, hc0.1, hc0.2, ho, hw, hm, ⟨by omega, hel⟩, ⟨by omega, hey⟩, ⟨by omega, heq⟩⟩⟩, rfl⟩
  try simp only [go_sem, reduceIte, reduceCtorEq, Nat.reduceAdd, Nat.reduceMul, Nat.reduceSub, Nat.reduceDiv, Nat.reduceMod, Nat.reduceLeDiff, Nat.reduceEqDiff, Nat.reduceBEq, Nat.reduceBNe, Int.reduceBEq, Int.reduceBNe, Int.reduceAdd, Int.reduceSub, Int.reduceMul, Int.reduceLE, Int.reduceLT, Int.reduceEq, Int.reduceNeg, Int.reduceToNat, Nat.reduceLT]
  by_cases ho : img e.o
  case neg =>
    obtain ⟨o1, o2⟩ := imgN ho
    simp only [o1, o2, go_sem, reduceIte, reduceCtorEq, Nat.reduceAdd, Nat.reduceMul, Nat.reduceSub, Nat.reduceDiv, Nat.reduceMod, Nat.reduceLeDiff, Nat.reduceEqDiff, Nat.reduceBEq, Nat.reduceBNe, Int.reduceBEq, Int.reduceBNe, Int.reduceAdd, Int.reduceSub, Int.reduceMul, Int.reduceLE, Int.reduceLT, Int.reduceEq, Int.reduceNeg, Int.reduceToNat, Nat.reduceLT]
    refine RetC.bk [] ⟨⟨false, rfl, iff_of_false (by decide) fun h => ho h.o⟩, rfl⟩
  obtain ⟨p, q, o1, o2, hpq⟩ := imgB ho
  by_cases hw : img e.w
  case neg =>
    obtain ⟨w1, w2⟩ := imgN hw
    rcases hpq with rfl | ⟨rfl, rfl⟩
    all_goals
      simp only [o1, o2, w1, w2, go_sem, reduceIte, reduceCtorEq, Nat.reduceAdd, Nat.reduceMul, Nat.reduceSub, Nat.reduceDiv, Nat.reduceMod, Nat.reduceLeDiff, Nat.reduceEqDiff, Nat.reduceBEq, Nat.reduceBNe, Int.reduceBEq, Int.reduceBNe, Int.reduceAdd, Int.reduceSub, Int.reduceMul, Int.reduceLE, Int.reduceLT, Int.reduceEq, Int.reduceNeg, Int.reduceToNat, Nat.reduceLT]
      refine RetC.bk [] ⟨⟨false, rfl, iff_of_false (by decide) fun h => hw h.w⟩, rfl⟩
  obtain ⟨p', q', w1, w2, hpq'⟩ := imgB hw
  rcases hpq with rfl | ⟨rfl, rfl⟩ <;> rcases hpq' with rfl | ⟨rfl, rfl⟩
  all_goals
    simp only [o1, o2, w1, w2, go_sem, reduceIte, reduceCtorEq, Nat.reduceAdd, Nat.reduceMul, Nat.reduceSub, Nat.reduceDiv, Nat.reduceMod, Nat.reduceLeDiff, Nat.reduceEqDiff, Nat.reduceBEq, Nat.reduceBNe, Int.reduceBEq, Int.reduceBNe, Int.reduceAdd, Int.reduceSub, Int.reduceMul, Int.reduceLE, Int.reduceLT, Int.reduceEq, Int.reduceNeg, Int.reduceToNat, Nat.reduceLT]
    by_cases hm : each fitM e.m
    case neg =>
      have hs := sp_rfitsMoves e.m
      rw [decide_eq_false hm] at hs
      refine CallC.os hs [] ?_
      rintro v ρ' ⟨rfl, rfl⟩
      simp only [go_sem, reduceIte, reduceCtorEq, Nat.reduceAdd, Nat.reduceMul, Nat.reduceSub, Nat.reduceDiv, Nat.reduceMod, Nat.reduceLeDiff, Nat.reduceEqDiff, Nat.reduceBEq, Nat.reduceBNe, Int.reduceBEq, Int.reduceBNe, Int.reduceAdd, Int.reduceSub, Int.reduceMul, Int.reduceLE, Int.reduceLT, Int.reduceEq, Int.reduceNeg, Int.reduceToNat, Nat.reduceLT]
      refine RetC.bk [] ⟨⟨false, rfl, iff_of_false (by decide) fun h => hm h.m⟩, rfl⟩
    have shm := sp_rfitsMoves e.m
    rw [decide_eq_true hm] at shm
    refine CallC.os shm [] ?_
    rintro v ρ' ⟨rfl, rfl⟩
    simp only [go_sem, reduceIte, reduceCtorEq, Nat.reduceAdd, Nat.reduceMul, Nat.reduceSub, Nat.reduceDiv, Nat.reduceMod, Nat.reduceLeDiff, Nat.reduceEqDiff, Nat.reduceBEq, Nat.reduceBNe, Int.reduceBEq, Int.reduceBNe, Int.reduceAdd, Int.reduceSub, Int.reduceMul, Int.reduceLE, Int.reduceLT, Int.reduceEq, Int.reduceNeg, Int.reduceToNat, Nat.reduceLT]
    by_cases hzl : (e.l.length : Int) > 40
    · simp only [decide_eq_true hzl, go_sem, reduceIte, reduceCtorEq, Nat.reduceAdd, Nat.reduceMul, Nat.reduceSub, Nat.reduceDiv, Nat.reduceMod, Nat.reduceLeDiff, Nat.reduceEqDiff, Nat.reduceBEq, Nat.reduceBNe, Int.reduceBEq, Int.reduceBNe, Int.reduceAdd, Int.reduceSub, Int.reduceMul, Int.reduceLE, Int.reduceLT, Int.reduceEq, Int.reduceNeg, Int.reduceToNat, Nat.reduceLT]
      refine RetC.bk [] ⟨⟨false, rfl, iff_of_false (by decide) fun h => by have := h.l.1; omega⟩, rfl⟩
    simp only [decide_eq_false hzl, go_sem, reduceIte, reduceCtorEq, Nat.reduceAdd, Nat.reduceMul, Nat.reduceSub, Nat.reduceDiv, Nat.reduceMod, Nat.reduceLeDiff, Nat.reduceEqDiff, Nat.reduceBEq, Nat.reduceBNe, Int.reduceBEq, Int.reduceBNe, Int.reduceAdd, Int.reduceSub, Int.reduceMul, Int.reduceLE, Int.reduceLT, Int.reduceEq, Int.reduceNeg, Int.reduceToNat, Nat.reduceLT]
    by_cases hzy : (e.y.length : Int) > 40
    · simp only [decide_eq_true hzy, go_sem, reduceIte, reduceCtorEq, Nat.reduceAdd, Nat.reduceMul, Nat.reduceSub, Nat.reduceDiv, Nat.reduceMod, Nat.reduceLeDiff, Nat.reduceEqDiff, Nat.reduceBEq, Nat.reduceBNe, Int.reduceBEq, Int.reduceBNe, Int.reduceAdd, Int.reduceSub, Int.reduceMul, Int.reduceLE, Int.reduceLT, Int.reduceEq, Int.reduceNeg, Int.reduceToNat, Nat.reduceLT]
      refine RetC.bk [] ⟨⟨false, rfl, iff_of_false (by decide) fun h => by have := h.y.1; omega⟩, rfl⟩
    simp only [decide_eq_false hzy, go_sem, reduceIte, reduceCtorEq, Nat.reduceAdd, Nat.reduceMul, Nat.reduceSub, Nat.reduceDiv, Nat.reduceMod, Nat.reduceLeDiff, Nat.reduceEqDiff, Nat.reduceBEq, Nat.reduceBNe, Int.reduceBEq, Int.reduceBNe, Int.reduceAdd, Int.reduceSub, Int.reduceMul, Int.reduceLE, Int.reduceLT, Int.reduceEq, Int.reduceNeg, Int.reduceToNat, Nat.reduceLT]
    by_cases hzq : (e.q.length : Int) > 40
    · simp only [decide_eq_true hzq, go_sem, reduceIte, reduceCtorEq, Nat.reduceAdd, Nat.reduceMul, Nat.reduceSub, Nat.reduceDiv, Nat.reduceMod, Nat.reduceLeDiff, Nat.reduceEqDiff, Nat.reduceBEq, Nat.reduceBNe, Int.reduceBEq, Int.reduceBNe, Int.reduceAdd, Int.reduceSub, Int.reduceMul, Int.reduceLE, Int.reduceLT, Int.reduceEq, Int.reduceNeg, Int.reduceToNat, Nat.reduceLT]
      refine RetC.bk [] ⟨⟨false, rfl, iff_of_false (by decide) fun h => by have := h.q.1; omega⟩, rfl⟩
    simp only [decide_eq_false hzq, go_sem, reduceIte, reduceCtorEq, Nat.reduceAdd, Nat.reduceMul, Nat.reduceSub, Nat.reduceDiv, Nat.reduceMod, Nat.reduceLeDiff, Nat.reduceEqDiff, Nat.reduceBEq, Nat.reduceBNe, Int.reduceBEq, Int.reduceBNe, Int.reduceAdd, Int.reduceSub, Int.reduceMul, Int.reduceLE, Int.reduceLT, Int.reduceEq, Int.reduceNeg, Int.reduceToNat, Nat.reduceLT]
    exact ⟨(), ⟨⟨ho, hw, hm⟩, by omega, by omega, by omega⟩, Weak.b [0] 0⟩
end Go.Proofs.Ytbhefgajgdcajaa

/- The first look at entry; entries that are light. -/
import Derived.Test.YtbhefgajgdcajaaSxShort
import Derived.Test.YtbhefgajgdcajaaEntSame
set_option linter.unusedVariables false
set_option linter.unusedSimpArgs false
namespace Go.Proofs.Ytbhefgajgdcajaa
open Sx
attribute [local go_sem] wpC_skip wpC_reg wpC_draw wpC_seq wpC_block wpC_cond wpC_loop wpC_exit wpC_join joinK_n joinK_e joinK_r wpC_ret seqK_n seqK_e seqK_r blockK_n blockK_e blockK_r Fs_nil Fs_none Fs_some stepS_eq Fc_nil Fc_none Fc_some stepC_eq opFn ev cval lk need SV.nm enumR setS setR setRs cellsOf svOf rget spliceC rset src oint eqCells cvs fillC rows ints svDest keyOf2 ridC widens ibool icalc ibin List.replicate List.getD_cons_zero List.getD_cons_succ List.getD_nil List.set_cons_zero List.set_cons_succ List.map_cons List.map_nil List.foldl_cons List.foldl_nil List.length_cons List.length_nil List.drop_zero List.drop_succ_cons List.drop_nil List.take_succ_cons List.take_zero List.take_nil List.cons_append List.nil_append List.append_nil List.headD_cons List.flatten_cons List.flatten_nil Option.map_some Option.map_none Option.getD_none Option.getD_some true_and and_true Nat.zero_add Nat.add_zero appFn svRoom sameO beq_self_eq_true Nat.zero_mul Nat.mul_zero Nat.sub_zero Nat.zero_le Nat.le_refl and_self okB Bool.not_false Bool.true_or Bool.false_or Bool.not_true List.all_nil List.all_cons Int.toNat_zero Int.toNat_one CondC_true CondC_false beq_true beq_false opEn callEn skipEn slotsOf tmpsOf SOp.operands oo free disj List.contains_cons List.contains_nil Option.toList_some Option.toList_none Bool.and_true Bool.true_and Bool.or_false Bool.or_true Bool.and_self Bool.and_false Bool.false_and decide_true decide_false List.range'_succ List.range'_zero Int.toNat_natCast Int.natCast_nonneg Int.cast_ofNat_Int ne_eq not_false_eq_true updGiven updNew getR muOf nuOf owned isRo List.range.loop List.filter SV.ren CV.ren CV.renL SV.renL Res.ren List.length List.idxOf? List.findIdx? List.findIdx?.go slotsW slotW disB List.range
set_option maxRecDepth 100000
def e5 : Ent := ⟨5, 2, 0, 0, 0, 0, 0, 0, 0, 0, [], [], [], [], [], []⟩
theorem may_e5 : May e5 := ⟨by decide, by decide, by decide, by decide, by decide, by decide, by decide, by decide, by decide, by decide, by decide, by decide, by decide, by decide, by decide, by decide⟩
theorem may_zero : ¬ May zeroE := fun h => absurd h.k.1 (by decide)
theorem byts_e5 : e5.Byts := ⟨byts_nil, byts_nil⟩
theorem byts_zeroE : zeroE.Byts := ⟨byts_nil, byts_nil⟩
theorem fine_e5 : e5.Fine := ⟨Nat.zero_le _, Nat.zero_le _, Nat.zero_le _, Nat.zero_le _, fun x hx => by cases hx⟩
abbrev tl0 : List CV := [lbC [], lbC [], mvS [], lvS [], dtS [], opS []]
theorem e5_V : e5.V = .agg ([iC 5, iC 2, iC 0, iC 0, iC 0, iC 0, iC 0, iC 0, iC 0, iC 0] ++ tl0) := rfl
theorem zeroE_V : zeroE.V = .agg ([iC 0, iC 0, iC 0, iC 0, iC 0, iC 0, iC 0, iC 0, iC 0, iC 0] ++ tl0) := rfl
theorem one1 (j : Nat) (hj : j < 1) : CV.renL noNm (List.take 1 (List.drop (j * 1) [CV.val (.int .u8 1)])) = byf (lf [1]) j := by
  obtain rfl : j = 0 := by omega
  rfl
theorem takeE_short {b : List Int} (h : b.length < 21) : takeE b = (zeroE, 4) := by
  rcases takeE_cases b with ⟨h1, _⟩ | ⟨e, _, rfl, _⟩
  · exact h1
  · have := wrE_len e; omega
set_option maxHeartbeats 8000000 in
theorem sp_begun : FSpec Try.prog 9 [] [] (fun v ρ' => v = bV true ∧ ρ' = []) := by
  have h1 := sp_put e5
  have h2 := sp_take (putE e5) (byts_putE byts_e5)
  have hl : (putE e5).length = 21 := by rw [putE_may may_e5]; rfl
  rw [show takeE (putE e5) = (e5, 0) by rw [putE_may may_e5, takeE_put may_e5]] at h2
  obtain ⟨B, hB⟩ : ∃ B, putE e5 = B := ⟨_, rfl⟩
  rw [hB] at h1 h2 hl
  have h3 := sp_take [1] (fun x hx => by rw [List.mem_singleton] at hx; rw [hx]; decide)
  rw [takeE_short (by decide)] at h3
  have h4 := sp_may e5
  have h5 := sp_may zeroE
  have h6 := sp_same e5 e5 byts_e5 byts_e5 fine_e5
  have h7 := sp_same e5 zeroE byts_e5 byts_zeroE fine_e5
  have ne : e5 ≠ zeroE := fun h => absurd (congrArg Ent.k h) (by decide)
  have e21 : ((B.length : Int) == 21) = true := by rw [hl]; rfl
  rw [e5_V] at h1 h4 h6 h7
  rw [zeroE_V] at h5 h7
  dsimp only at h2 h3
  rw [e5_V] at h2
  rw [zeroE_V] at h3
  refine FSpec.of follow Try.func9 c9 (Nat.le_of_ble_eq_true rfl) fun hf => ?_
  simp only [sc9, go_sem, reduceIte, reduceCtorEq, Nat.reduceAdd, Nat.reduceMul, Nat.reduceSub, Nat.reduceDiv, Nat.reduceMod, Nat.reduceLeDiff, Nat.reduceEqDiff, Nat.reduceBEq, Nat.reduceBNe, Int.reduceBEq, Int.reduceBNe, Int.reduceAdd, Int.reduceSub, Int.reduceMul, Int.reduceLE, Int.reduceLT, Int.reduceEq, Int.reduceNeg, Int.reduceToNat, Nat.reduceLT]
  refine CallC.os h1 [] ?_
  rintro v ρ' ⟨rfl, rfl⟩
  simp only [go_sem, reduceIte, reduceCtorEq, Nat.reduceAdd, Nat.reduceMul, Nat.reduceSub, Nat.reduceDiv, Nat.reduceMod, Nat.reduceLeDiff, Nat.reduceEqDiff, Nat.reduceBEq, Nat.reduceBNe, Int.reduceBEq, Int.reduceBNe, Int.reduceAdd, Int.reduceSub, Int.reduceMul, Int.reduceLE, Int.reduceLT, Int.reduceEq, Int.reduceNeg, Int.reduceToNat, Nat.reduceLT]
  refine CallC.os h2 [] ?_
  rintro v ρ' ⟨rfl, rfl⟩
  simp only [go_sem, reduceIte, reduceCtorEq, Nat.reduceAdd, Nat.reduceMul, Nat.reduceSub, Nat.reduceDiv, Nat.reduceMod, Nat.reduceLeDiff, Nat.reduceEqDiff, Nat.reduceBEq, Nat.reduceBNe, Int.reduceBEq, Int.reduceBNe, Int.reduceAdd, Int.reduceSub, Int.reduceMul, Int.reduceLE, Int.reduceLT, Int.reduceEq, Int.reduceNeg, Int.reduceToNat, Nat.reduceLT]
  refine CallC.of_fz h3 [(108, .frz 1 1 (byf (lf [1])))] [] ⟨⟨Nat.zero_lt_one, Nat.le_refl _, .inl one1⟩, trivial⟩ rfl rfl ⟨slotW_frz rfl (Nat.le_refl _), trivial⟩ (by repeat' (first | exact trivial | exact rfl | exact Or.inl rfl | exact slotW_ren _ | exact cvW_ren _ | exact cvsW_ren _ | exact Nat.le_refl _ | exact slotW_frz rfl (Nat.le_refl _) | exact slotW_nil (Nat.le_of_ble_eq_true rfl) | exact cvW_frz rfl (Nat.le_refl _) | exact cvW_nil (Nat.le_of_ble_eq_true rfl) | exact Or.inl fun _ _ => rfl | exact fun _ _ => rfl | exact Nat.le_of_ble_eq_true rfl | refine ⟨Or.inl ⟨Nat.le_of_ble_eq_true rfl, ?_⟩, ?_⟩ | refine ⟨Or.inr ⟨Nat.le_of_ble_eq_true rfl, Nat.le_of_ble_eq_true rfl, Nat.le_of_ble_eq_true rfl⟩, ?_⟩ | exact Or.inr ⟨rfl, rfl, rfl, rfl, Nat.le_of_ble_eq_true rfl, Nat.le_of_ble_eq_true rfl, Nat.le_of_ble_eq_true rfl⟩ | refine ⟨?_, ?_⟩)) rfl rfl ?_
  rintro v ρ' ⟨rfl, rfl⟩
  simp only [e21, go_sem, reduceIte, reduceCtorEq, Nat.reduceAdd, Nat.reduceMul, Nat.reduceSub, Nat.reduceDiv, Nat.reduceMod, Nat.reduceLeDiff, Nat.reduceEqDiff, Nat.reduceBEq, Nat.reduceBNe, Int.reduceBEq, Int.reduceBNe, Int.reduceAdd, Int.reduceSub, Int.reduceMul, Int.reduceLE, Int.reduceLT, Int.reduceEq, Int.reduceNeg, Int.reduceToNat, Nat.reduceLT]
  refine CallC.os h4 [] ?_
  rintro v ρ' ⟨⟨b4, rfl, k4⟩, rfl⟩
  obtain rfl : b4 = true := k4.2 may_e5
  simp only [go_sem, reduceIte, reduceCtorEq, Nat.reduceAdd, Nat.reduceMul, Nat.reduceSub, Nat.reduceDiv, Nat.reduceMod, Nat.reduceLeDiff, Nat.reduceEqDiff, Nat.reduceBEq, Nat.reduceBNe, Int.reduceBEq, Int.reduceBNe, Int.reduceAdd, Int.reduceSub, Int.reduceMul, Int.reduceLE, Int.reduceLT, Int.reduceEq, Int.reduceNeg, Int.reduceToNat, Nat.reduceLT]
  refine CallC.os h5 [] ?_
  rintro v ρ' ⟨⟨b5, rfl, k5⟩, rfl⟩
  obtain rfl : b5 = false := by cases b5; rfl; exact absurd (k5.1 rfl) may_zero
  simp only [go_sem, reduceIte, reduceCtorEq, Nat.reduceAdd, Nat.reduceMul, Nat.reduceSub, Nat.reduceDiv, Nat.reduceMod, Nat.reduceLeDiff, Nat.reduceEqDiff, Nat.reduceBEq, Nat.reduceBNe, Int.reduceBEq, Int.reduceBNe, Int.reduceAdd, Int.reduceSub, Int.reduceMul, Int.reduceLE, Int.reduceLT, Int.reduceEq, Int.reduceNeg, Int.reduceToNat, Nat.reduceLT]
  refine CallC.os h6 [] ?_
  rintro v ρ' ⟨⟨b6, rfl, k6⟩, rfl⟩
  obtain rfl : b6 = true := k6.2 rfl
  simp only [go_sem, reduceIte, reduceCtorEq, Nat.reduceAdd, Nat.reduceMul, Nat.reduceSub, Nat.reduceDiv, Nat.reduceMod, Nat.reduceLeDiff, Nat.reduceEqDiff, Nat.reduceBEq, Nat.reduceBNe, Int.reduceBEq, Int.reduceBNe, Int.reduceAdd, Int.reduceSub, Int.reduceMul, Int.reduceLE, Int.reduceLT, Int.reduceEq, Int.reduceNeg, Int.reduceToNat, Nat.reduceLT]
  refine CallC.os h7 [] ?_
  rintro v ρ' ⟨⟨b7, rfl, k7⟩, rfl⟩
  obtain rfl : b7 = false := by cases b7; rfl; exact absurd (k7.1 rfl) ne
  simp only [go_sem, reduceIte, reduceCtorEq, Nat.reduceAdd, Nat.reduceMul, Nat.reduceSub, Nat.reduceDiv, Nat.reduceMod, Nat.reduceLeDiff, Nat.reduceEqDiff, Nat.reduceBEq, Nat.reduceBNe, Int.reduceBEq, Int.reduceBNe, Int.reduceAdd, Int.reduceSub, Int.reduceMul, Int.reduceLE, Int.reduceLT, Int.reduceEq, Int.reduceNeg, Int.reduceToNat, Nat.reduceLT]
  refine RetC.bk [] ⟨rfl, rfl⟩

/-- Not too great. -/
structure Ent.Light (e : Ent) : Prop where
  m : e.m.length ≤ 45
  l : e.l.length ≤ 45
  y : e.y.length ≤ 45
  q : e.q.length ≤ 45
  z : ∀ x ∈ e.q, x.2.2.length ≤ 100
def lenO (l : List Op) : Int := (l.map fun x => (x.2.2.length : Int)).sum
theorem lenO_take {l : List Op} {i : Nat} (h : i < l.length) : lenO (l.take (i + 1)) = lenO (l.take i) + (l.getD i (0, 0, [])).2.2.length := by
  unfold lenO
  rw [List.take_add_one, List.getD_eq_getElem?_getD, List.getElem?_eq_getElem h, Option.toList_some, List.map_append, List.sum_append]
  simp
theorem lenO_nonneg : ∀ l : List Op, 0 ≤ lenO l
  | [] => by simp [lenO]
  | x :: l => by
    have := lenO_nonneg l
    unfold lenO at *
    rw [List.map_cons, List.sum_cons]; omega
theorem lenO_mem : ∀ {l : List Op} {x : Op}, x ∈ l → (x.2.2.length : Int) ≤ lenO l
  | y :: l, x, h => by
    have h1 := lenO_nonneg l
    unfold lenO at *
    rw [List.map_cons, List.sum_cons]
    rcases List.mem_cons.1 h with rfl | h
    · omega
    · have := lenO_mem h
      unfold lenO at this; omega
/-- Sizes that any slice has. -/
def Ent.Sized (e : Ent) : Prop := ∀ x ∈ e.q, x.2.2.length ≤ 140737488355328
set_option maxHeartbeats 8000000 in
theorem sp_light (e : Ent) (hs : e.Sized) : FSpec Try.prog 10 [e.V] [] (fun v ρ' => (∃ b, v = bV b ∧ (b = true → e.Light)) ∧ ρ' = []) := by
  refine FSpec.of follow Try.func10 c10 (Nat.le_of_ble_eq_true rfl) fun hf => ?_
  by_cases h1 : (e.o.length : Int) > 40
  · simp only [sc10, Ent.cells, decide_eq_true h1, go_sem, reduceIte, reduceCtorEq, Nat.reduceAdd, Nat.reduceMul, Nat.reduceSub, Nat.reduceDiv, Nat.reduceMod, Nat.reduceLeDiff, Nat.reduceEqDiff, Nat.reduceBEq, Nat.reduceBNe, Int.reduceBEq, Int.reduceBNe, Int.reduceAdd, Int.reduceSub, Int.reduceMul, Int.reduceLE, Int.reduceLT, Int.reduceEq, Int.reduceNeg, Int.reduceToNat, Nat.reduceLT]
    refine RetC.bk [] ⟨⟨false, rfl, fun h => by cases h⟩, rfl⟩
  by_cases h2 : (e.w.length : Int) > 40
  · simp only [sc10, Ent.cells, decide_eq_false h1, decide_eq_true h2, go_sem, reduceIte, reduceCtorEq, Nat.reduceAdd, Nat.reduceMul, Nat.reduceSub, Nat.reduceDiv, Nat.reduceMod, Nat.reduceLeDiff, Nat.reduceEqDiff, Nat.reduceBEq, Nat.reduceBNe, Int.reduceBEq, Int.reduceBNe, Int.reduceAdd, Int.reduceSub, Int.reduceMul, Int.reduceLE, Int.reduceLT, Int.reduceEq, Int.reduceNeg, Int.reduceToNat, Nat.reduceLT]
    refine RetC.bk [] ⟨⟨false, rfl, fun h => by cases h⟩, rfl⟩
  by_cases h3 : (e.m.length : Int) > 45
  · simp only [sc10, Ent.cells, decide_eq_false h1, decide_eq_false h2, decide_eq_true h3, go_sem, reduceIte, reduceCtorEq, Nat.reduceAdd, Nat.reduceMul, Nat.reduceSub, Nat.reduceDiv, Nat.reduceMod, Nat.reduceLeDiff, Nat.reduceEqDiff, Nat.reduceBEq, Nat.reduceBNe, Int.reduceBEq, Int.reduceBNe, Int.reduceAdd, Int.reduceSub, Int.reduceMul, Int.reduceLE, Int.reduceLT, Int.reduceEq, Int.reduceNeg, Int.reduceToNat, Nat.reduceLT]
    refine RetC.bk [] ⟨⟨false, rfl, fun h => by cases h⟩, rfl⟩
  by_cases h4 : (e.l.length : Int) > 45
  · simp only [sc10, Ent.cells, decide_eq_false h1, decide_eq_false h2, decide_eq_false h3, decide_eq_true h4, go_sem, reduceIte, reduceCtorEq, Nat.reduceAdd, Nat.reduceMul, Nat.reduceSub, Nat.reduceDiv, Nat.reduceMod, Nat.reduceLeDiff, Nat.reduceEqDiff, Nat.reduceBEq, Nat.reduceBNe, Int.reduceBEq, Int.reduceBNe, Int.reduceAdd, Int.reduceSub, Int.reduceMul, Int.reduceLE, Int.reduceLT, Int.reduceEq, Int.reduceNeg, Int.reduceToNat, Nat.reduceLT]
    refine RetC.bk [] ⟨⟨false, rfl, fun h => by cases h⟩, rfl⟩
  by_cases h5 : (e.y.length : Int) > 45
  · simp only [sc10, Ent.cells, decide_eq_false h1, decide_eq_false h2, decide_eq_false h3, decide_eq_false h4, decide_eq_true h5, go_sem, reduceIte, reduceCtorEq, Nat.reduceAdd, Nat.reduceMul, Nat.reduceSub, Nat.reduceDiv, Nat.reduceMod, Nat.reduceLeDiff, Nat.reduceEqDiff, Nat.reduceBEq, Nat.reduceBNe, Int.reduceBEq, Int.reduceBNe, Int.reduceAdd, Int.reduceSub, Int.reduceMul, Int.reduceLE, Int.reduceLT, Int.reduceEq, Int.reduceNeg, Int.reduceToNat, Nat.reduceLT]
    refine RetC.bk [] ⟨⟨false, rfl, fun h => by cases h⟩, rfl⟩
  by_cases h6 : (e.q.length : Int) > 45
  · simp only [sc10, Ent.cells, decide_eq_false h1, decide_eq_false h2, decide_eq_false h3, decide_eq_false h4, decide_eq_false h5, decide_eq_true h6, go_sem, reduceIte, reduceCtorEq, Nat.reduceAdd, Nat.reduceMul, Nat.reduceSub, Nat.reduceDiv, Nat.reduceMod, Nat.reduceLeDiff, Nat.reduceEqDiff, Nat.reduceBEq, Nat.reduceBNe, Int.reduceBEq, Int.reduceBNe, Int.reduceAdd, Int.reduceSub, Int.reduceMul, Int.reduceLE, Int.reduceLT, Int.reduceEq, Int.reduceNeg, Int.reduceToNat, Nat.reduceLT]
    refine RetC.bk [] ⟨⟨false, rfl, fun h => by cases h⟩, rfl⟩
  simp only [sc10, Ent.cells, decide_eq_false h1, decide_eq_false h2, decide_eq_false h3, decide_eq_false h4, decide_eq_false h5, decide_eq_false h6, go_sem, reduceIte, reduceCtorEq, Nat.reduceAdd, Nat.reduceMul, Nat.reduceSub, Nat.reduceDiv, Nat.reduceMod, Nat.reduceLeDiff, Nat.reduceEqDiff, Nat.reduceBEq, Nat.reduceBNe, Int.reduceBEq, Int.reduceBNe, Int.reduceAdd, Int.reduceSub, Int.reduceMul, Int.reduceLE, Int.reduceLT, Int.reduceEq, Int.reduceNeg, Int.reduceToNat, Nat.reduceLT]
  refine LoopC.inv follow (fun i : Nat => ⟨mkSl 57 [(1, .cv (.ptr 0 0 0 0)), (3, iV (lenO (e.q.take i))), (4, iV i)], [(0, .cells e.cells)], 1⟩)
    (fun i => i ≤ e.q.length ∧ lenO (e.q.take i) ≤ 140737488355328 * i) (fun i => e.q.length - i) 0 ⟨Nat.zero_le _, by simp [lenO]⟩ (Weak.b [0] 0) ?_
  rintro i ⟨hi, hle⟩
  simp only [mkSl, Ent.cells, go_sem, reduceIte, reduceCtorEq, Nat.reduceAdd, Nat.reduceMul, Nat.reduceSub, Nat.reduceDiv, Nat.reduceMod, Nat.reduceLeDiff, Nat.reduceEqDiff, Nat.reduceBEq, Nat.reduceBNe, Int.reduceBEq, Int.reduceBNe, Int.reduceAdd, Int.reduceSub, Int.reduceMul, Int.reduceLE, Int.reduceLT, Int.reduceEq, Int.reduceNeg, Int.reduceToNat, Nat.reduceLT]
  refine CondC.of (fun hc => ?_) (fun hc => ?_)
  · simp only [decide_eq_true_eq] at hc
    have hc' : i < e.q.length := by omega
    have hn := lenO_take hc'
    have h0 := lenO_nonneg (e.q.take i)
    have hx := hs _ (getD_mem hc' (0, 0, []))
    simp only [go_sem, reduceIte, reduceCtorEq, Nat.reduceAdd, Nat.reduceMul, Nat.reduceSub, Nat.reduceDiv, Nat.reduceMod, Nat.reduceLeDiff, Nat.reduceEqDiff, Nat.reduceBEq, Nat.reduceBNe, Int.reduceBEq, Int.reduceBNe, Int.reduceAdd, Int.reduceSub, Int.reduceMul, Int.reduceLE, Int.reduceLT, Int.reduceEq, Int.reduceNeg, Int.reduceToNat, Nat.reduceLT, ← hn]
    repeat (refine And.intro (by first | omega | (unfold inI64; omega) | (simp only [u8min, u8max, u16min, u16max, u32min, u32max]; omega)) ?_)
    exact ⟨i + 1, ⟨by omega, by rw [hn]; omega⟩, by omega, Weak.b [0] 0⟩
  · simp only [decide_eq_false_iff_not] at hc
    obtain rfl : i = e.q.length := by omega
    rw [List.take_length]
    simp only [go_sem, reduceIte, reduceCtorEq, Nat.reduceAdd, Nat.reduceMul, Nat.reduceSub, Nat.reduceDiv, Nat.reduceMod, Nat.reduceLeDiff, Nat.reduceEqDiff, Nat.reduceBEq, Nat.reduceBNe, Int.reduceBEq, Int.reduceBNe, Int.reduceAdd, Int.reduceSub, Int.reduceMul, Int.reduceLE, Int.reduceLT, Int.reduceEq, Int.reduceNeg, Int.reduceToNat, Nat.reduceLT]
    by_cases h7 : lenO e.q ≤ 100
    · simp only [decide_eq_true h7]
      refine RetC.bk [] ⟨⟨true, rfl, fun _ => ⟨by omega, by omega, by omega, by omega, fun x hx => by have := lenO_mem hx; omega⟩⟩, rfl⟩
    · simp only [decide_eq_false h7]
      refine RetC.bk [] ⟨⟨false, rfl, fun h => by cases h⟩, rfl⟩
end Go.Proofs.Ytbhefgajgdcajaa

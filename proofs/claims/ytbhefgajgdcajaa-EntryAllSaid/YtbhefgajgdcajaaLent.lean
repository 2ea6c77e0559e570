/- What is lent: a copy, with sevens behind it. -/
import Derived.Test.YtbhefgajgdcajaaSxShort
import Derived.Test.YtbhefgajgdcajaaCode
import Derived.Test.YtbhefgajgdcajaaSxBytes
set_option linter.unusedVariables false
set_option linter.unusedSimpArgs false
namespace Go.Proofs.Ytbhefgajgdcajaa
open Sx
attribute [local go_sem] wpC_skip wpC_reg wpC_draw wpC_seq wpC_block wpC_cond wpC_loop wpC_exit wpC_join joinK_n joinK_e joinK_r wpC_ret seqK_n seqK_e seqK_r blockK_n blockK_e blockK_r Fs_nil Fs_none Fs_some stepS_eq Fc_nil Fc_none Fc_some stepC_eq opFn ev cval lk need SV.nm enumR setS setR setRs cellsOf svOf rget spliceC rset src oint eqCells cvs fillC rows ints svDest keyOf2 ridC widens ibool icalc ibin List.replicate List.getD_cons_zero List.getD_cons_succ List.getD_nil List.set_cons_zero List.set_cons_succ List.map_cons List.map_nil List.foldl_cons List.foldl_nil List.length_cons List.length_nil List.drop_zero List.drop_succ_cons List.drop_nil List.take_succ_cons List.take_zero List.take_nil List.cons_append List.nil_append List.append_nil List.headD_cons List.flatten_cons List.flatten_nil Option.map_some Option.map_none Option.getD_none Option.getD_some true_and and_true Nat.zero_add Nat.add_zero appFn svRoom sameO beq_self_eq_true Nat.zero_mul Nat.mul_zero Nat.sub_zero Nat.zero_le Nat.le_refl and_self okB Bool.not_false Bool.true_or Bool.false_or Bool.not_true List.all_nil List.all_cons Int.toNat_zero Int.toNat_one CondC_true CondC_false beq_true beq_false opEn callEn skipEn slotsOf tmpsOf SOp.operands oo free disj List.contains_cons List.contains_nil Option.toList_some Option.toList_none Bool.and_true Bool.true_and Bool.or_false Bool.or_true Bool.and_self Bool.and_false Bool.false_and decide_true decide_false List.range'_succ List.range'_zero Int.toNat_natCast Int.natCast_nonneg Int.cast_ofNat_Int ne_eq not_false_eq_true updGiven updNew getR muOf nuOf owned isRo List.range.loop List.filter SV.ren CV.ren CV.renL SV.renL Res.ren List.length List.idxOf? List.findIdx? List.findIdx?.go slotsW slotW disB List.range
set_option maxRecDepth 100000

def lentf (n : Nat) (f : Nat → Int) (j : Nat) : Int := if j < n then f j else 7

theorem sp_lent (n : Nat) (f : Nat → Int) (hn : n ≤ 1000) :
    FSpec Try.prog 11 [.cv (.rsl 1 n none (byf f))] [] (fun v ρ' => v = .cv (.slc 0 1 0 n (some (n + 4))) ∧ ρ' = [.recs 1 (n + 4) (byf (lentf n f))]) := by
  refine FSpec.of follow Try.func11 c11 (Nat.le_of_ble_eq_true rfl) fun hf => ?_
  have e1 : ((n : Int) + 4).toNat = n + 4 := by omega
  simp only [sc11, e1, go_sem, reduceIte, reduceCtorEq, Nat.reduceAdd, Nat.reduceMul, Nat.reduceSub, Nat.reduceDiv, Nat.reduceMod, Nat.reduceLeDiff, Nat.reduceEqDiff, Nat.reduceBEq, Nat.reduceBNe, Int.reduceBEq, Int.reduceBNe, Int.reduceAdd, Int.reduceSub, Int.reduceMul, Int.reduceLE, Int.reduceLT, Int.reduceEq, Int.reduceNeg, Int.reduceToNat, Nat.reduceLT]
  repeat (refine And.intro (by first | omega | (unfold inI64; omega) | (simp only [u8min, u8max, u16min, u16max, u32min, u32max]; omega)) ?_)
  refine LoopC.inv follow (fun i : Nat => ⟨mkSl 28 [(0, .cv (.rsl 1 n none (byf f))), (3, .cv (.slc 0 1 0 n (some (n + 4)))), (4, .cv (.val (.int .i64 i)))], [(0, .recs 1 (n + 4) (byf fun j => if j < i then f j else 0))], 1⟩)
    (fun i => i ≤ n) (fun i => n - i) 0 (Nat.zero_le _) (Weak.b [14] 0) ?_
  intro i hi
  simp only [mkSl, go_sem, reduceIte, reduceCtorEq, Nat.reduceAdd, Nat.reduceMul, Nat.reduceSub, Nat.reduceDiv, Nat.reduceMod, Nat.reduceLeDiff, Nat.reduceEqDiff, Nat.reduceBEq, Nat.reduceBNe, Int.reduceBEq, Int.reduceBNe, Int.reduceAdd, Int.reduceSub, Int.reduceMul, Int.reduceLE, Int.reduceLT, Int.reduceEq, Int.reduceNeg, Int.reduceToNat, Nat.reduceLT]
  refine CondC.of (fun hc => ?_) (fun hc => ?_)
  · simp only [decide_eq_true_eq] at hc
    simp only [go_sem, reduceIte, reduceCtorEq, Nat.reduceAdd, Nat.reduceMul, Nat.reduceSub, Nat.reduceDiv, Nat.reduceMod, Nat.reduceLeDiff, Nat.reduceEqDiff, Nat.reduceBEq, Nat.reduceBNe, Int.reduceBEq, Int.reduceBNe, Int.reduceAdd, Int.reduceSub, Int.reduceMul, Int.reduceLE, Int.reduceLT, Int.reduceEq, Int.reduceNeg, Int.reduceToNat, Nat.reduceLT]
    repeat (refine And.intro (by first | omega | (unfold inI64; omega) | (simp only [u8min, u8max, u16min, u16max, u32min, u32max]; omega)) ?_)
    refine ⟨i + 1, by omega, by omega, Weak.by [0] 0 ⟨rfl, rfl, rfl, by repeat' (first | exact trivial | exact rfl | exact Or.inl rfl | exact slotW_ren _ | exact cvW_ren _ | exact cvsW_ren _ | exact Nat.le_refl _ | exact slotW_frz rfl (Nat.le_refl _) | exact slotW_nil (Nat.le_of_ble_eq_true rfl) | exact cvW_frz rfl (Nat.le_refl _) | exact cvW_nil (Nat.le_of_ble_eq_true rfl) | exact Or.inl fun _ _ => rfl | exact fun _ _ => rfl | exact Nat.le_of_ble_eq_true rfl | refine ⟨Or.inl ⟨Nat.le_of_ble_eq_true rfl, ?_⟩, ?_⟩ | refine ⟨Or.inr ⟨Nat.le_of_ble_eq_true rfl, Nat.le_of_ble_eq_true rfl, Nat.le_of_ble_eq_true rfl⟩, ?_⟩ | exact Or.inr ⟨rfl, rfl, rfl, rfl, Nat.le_of_ble_eq_true rfl, Nat.le_of_ble_eq_true rfl, Nat.le_of_ble_eq_true rfl⟩ | refine ⟨?_, ?_⟩), ?_⟩⟩
    refine ⟨.inl ⟨Nat.le_of_ble_eq_true rfl, rfl, Nat.le_refl _, .inl fun j hj => rb ?_⟩, trivial⟩
    simp only [byf]
    (repeat' split) <;> first | rfl | (exfalso; omega) | (subst_vars; rfl)
  · have : i = n := by simp at hc; omega
    subst this
    simp only [go_sem, reduceIte, reduceCtorEq, Nat.reduceAdd, Nat.reduceMul, Nat.reduceSub, Nat.reduceDiv, Nat.reduceMod, Nat.reduceLeDiff, Nat.reduceEqDiff, Nat.reduceBEq, Nat.reduceBNe, Int.reduceBEq, Int.reduceBNe, Int.reduceAdd, Int.reduceSub, Int.reduceMul, Int.reduceLE, Int.reduceLT, Int.reduceEq, Int.reduceNeg, Int.reduceToNat, Nat.reduceLT]
    repeat (refine And.intro (by first | omega | (unfold inI64; omega) | (simp only [u8min, u8max, u16min, u16max, u32min, u32max]; omega)) ?_)
    refine RetC.back [0] ⟨rfl, rfl⟩ ⟨rfl, rfl, by repeat' (first | exact trivial | exact rfl | exact Or.inl rfl | exact slotW_ren _ | exact cvW_ren _ | exact cvsW_ren _ | exact Nat.le_refl _ | exact slotW_frz rfl (Nat.le_refl _) | exact slotW_nil (Nat.le_of_ble_eq_true rfl) | exact cvW_frz rfl (Nat.le_refl _) | exact cvW_nil (Nat.le_of_ble_eq_true rfl) | exact Or.inl fun _ _ => rfl | exact fun _ _ => rfl | exact Nat.le_of_ble_eq_true rfl | refine ⟨Or.inl ⟨Nat.le_of_ble_eq_true rfl, ?_⟩, ?_⟩ | refine ⟨Or.inr ⟨Nat.le_of_ble_eq_true rfl, Nat.le_of_ble_eq_true rfl, Nat.le_of_ble_eq_true rfl⟩, ?_⟩ | exact Or.inr ⟨rfl, rfl, rfl, rfl, Nat.le_of_ble_eq_true rfl, Nat.le_of_ble_eq_true rfl, Nat.le_of_ble_eq_true rfl⟩ | refine ⟨?_, ?_⟩), ?_, trivial, rfl⟩
    refine ⟨⟨rfl, Nat.le_refl _, .inl fun j hj => ?_⟩, trivial⟩
    by_cases h : i ≤ j
    · have h4 : j - i = 0 ∨ j - i = 1 ∨ j - i = 2 ∨ j - i = 3 := by omega
      simp only [show i ≤ j ∧ j < i + 4 from ⟨h, hj⟩, and_self, if_true, byf, lentf, show ¬ j < i by omega, if_false]
      rcases h4 with h4 | h4 | h4 | h4 <;> rw [h4] <;> rfl
    · simp only [show ¬ (i ≤ j ∧ j < i + 4) by omega, if_false, byf, lentf, show j < i by omega, if_true, CV.renL, CV.ren]

theorem sp_back (n : Nat) (F g : Nat → Int) (hn : n ≤ 1000) (hF : ∀ j, j < n + 4 → F j = lentf n g j) :
    FSpec Try.prog 20 [.cv (.slc 0 1 0 n (some (n + 4))), .cv (.rsl 1 n none (byf g))] [.ro 1 (n + 4) (byf F)] (fun v ρ' => v = .cv (.val (.bool true)) ∧ ρ' = [.gone]) := by
  refine FSpec.of follow Try.func20 c20 (Nat.le_of_ble_eq_true rfl) fun hf => ?_
  have e1 : ((n : Int) + 4).toNat = n + 4 := by omega
  have e2 : decide (((n + 4 : Nat) : Int) < (n : Int) + 4) = false := by simp
  simp only [sc20, e1, e2, go_sem, reduceIte, reduceCtorEq, Nat.reduceAdd, Nat.reduceMul, Nat.reduceSub, Nat.reduceDiv, Nat.reduceMod, Nat.reduceLeDiff, Nat.reduceEqDiff, Nat.reduceBEq, Nat.reduceBNe, Int.reduceBEq, Int.reduceBNe, Int.reduceAdd, Int.reduceSub, Int.reduceMul, Int.reduceLE, Int.reduceLT, Int.reduceEq, Int.reduceNeg, Int.reduceToNat, Nat.reduceLT, bne_self_eq_false]
  repeat (refine And.intro (by first | omega | (unfold inI64; omega) | (simp only [u8min, u8max, u16min, u16max, u32min, u32max]; omega)) ?_)
  refine LoopC.inv follow (fun i : Nat => ⟨mkSl 46 [(1, .cv (.rsl 1 n none (byf g))), (5, .cv (.slc 0 1 0 (n + 4) (some (n + 4)))), (6, .cv (.val (.int .i64 i)))], [(0, .ro 1 (n + 4) (byf F))], 1⟩)
    (fun i => i ≤ n + 4) (fun i => n + 4 - i) 0 (Nat.zero_le _) (Weak.b [0] 0) ?_
  intro i hi
  simp only [mkSl, go_sem, reduceIte, reduceCtorEq, Nat.reduceAdd, Nat.reduceMul, Nat.reduceSub, Nat.reduceDiv, Nat.reduceMod, Nat.reduceLeDiff, Nat.reduceEqDiff, Nat.reduceBEq, Nat.reduceBNe, Int.reduceBEq, Int.reduceBNe, Int.reduceAdd, Int.reduceSub, Int.reduceMul, Int.reduceLE, Int.reduceLT, Int.reduceEq, Int.reduceNeg, Int.reduceToNat, Nat.reduceLT]
  refine CondC.of (fun hc => ?_) (fun hc => ?_)
  · simp only [decide_eq_true_eq] at hc
    have hi' : i < n + 4 := by omega
    have hFi := hF i hi'
    have d1 : decide ((i : Int) < (n : Int)) = decide (i < n) := by simp
    unfold lentf at hFi
    by_cases h : i < n
    all_goals
      simp only [h, if_true, if_false] at hFi
      simp only [d1, h, hFi, go_sem, reduceIte, reduceCtorEq, Nat.reduceAdd, Nat.reduceMul, Nat.reduceSub, Nat.reduceDiv, Nat.reduceMod, Nat.reduceLeDiff, Nat.reduceEqDiff, Nat.reduceBEq, Nat.reduceBNe, Int.reduceBEq, Int.reduceBNe, Int.reduceAdd, Int.reduceSub, Int.reduceMul, Int.reduceLE, Int.reduceLT, Int.reduceEq, Int.reduceNeg, Int.reduceToNat, Nat.reduceLT, bne_self_eq_false]
      repeat (refine And.intro (by first | omega | (unfold inI64; omega) | (simp only [u8min, u8max, u16min, u16max, u32min, u32max]; omega)) ?_)
      exact ⟨i + 1, by omega, by omega, Weak.b [0] 0⟩
  · simp only [go_sem, reduceIte, reduceCtorEq, Nat.reduceAdd, Nat.reduceMul, Nat.reduceSub, Nat.reduceDiv, Nat.reduceMod, Nat.reduceLeDiff, Nat.reduceEqDiff, Nat.reduceBEq, Nat.reduceBNe, Int.reduceBEq, Int.reduceBNe, Int.reduceAdd, Int.reduceSub, Int.reduceMul, Int.reduceLE, Int.reduceLT, Int.reduceEq, Int.reduceNeg, Int.reduceToNat, Nat.reduceLT]
    refine RetC.bk [] ⟨rfl, rfl⟩
end Go.Proofs.Ytbhefgajgdcajaa

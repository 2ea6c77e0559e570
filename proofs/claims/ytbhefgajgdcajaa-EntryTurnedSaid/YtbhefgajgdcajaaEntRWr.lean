import Derived.Test.YtbhefgajgdcajaaSxShort
import Derived.Test.YtbhefgajgdcajaaEntRMay
set_option linter.unusedVariables false
set_option linter.unusedSimpArgs false
/- The document's numbers: bytes of a number, and what bytes say. -/
namespace Go.Proofs.Ytbhefgajgdcajaa
open Sx
attribute [local go_sem] wpC_skip wpC_reg wpC_draw wpC_seq wpC_block wpC_cond wpC_loop wpC_exit wpC_join joinK_n joinK_e joinK_r wpC_ret seqK_n seqK_e seqK_r blockK_n blockK_e blockK_r Fs_nil Fs_none Fs_some stepS_eq Fc_nil Fc_none Fc_some stepC_eq opFn ev cval lk need SV.nm enumR setS setR setRs cellsOf svOf rget spliceC rset src oint eqCells cvs fillC rows ints svDest keyOf2 ridC widens ibool icalc ibin List.replicate List.getD_cons_zero List.getD_cons_succ List.getD_nil List.set_cons_zero List.set_cons_succ List.map_cons List.map_nil List.foldl_cons List.foldl_nil List.length_cons List.length_nil List.drop_zero List.drop_succ_cons List.drop_nil List.take_succ_cons List.take_zero List.take_nil List.cons_append List.nil_append List.append_nil List.headD_cons List.flatten_cons List.flatten_nil Option.map_some Option.map_none Option.getD_none Option.getD_some true_and and_true Nat.zero_add Nat.add_zero appFn svRoom sameO beq_self_eq_true Nat.zero_mul Nat.mul_zero Nat.sub_zero Nat.zero_le Nat.le_refl and_self okB Bool.not_false Bool.true_or Bool.false_or Bool.not_true List.all_nil List.all_cons Int.toNat_zero Int.toNat_one CondC_true CondC_false beq_true beq_false opEn callEn skipEn slotsOf tmpsOf SOp.operands oo free disj List.contains_cons List.contains_nil Option.toList_some Option.toList_none Bool.and_true Bool.true_and Bool.or_false Bool.or_true Bool.and_self Bool.and_false Bool.false_and decide_true decide_false List.range'_succ List.range'_zero Int.toNat_natCast Int.natCast_nonneg Int.cast_ofNat_Int ne_eq not_false_eq_true updGiven updNew getR muOf nuOf owned isRo List.range.loop List.filter SV.ren CV.ren CV.renL SV.renL Res.ren List.length List.idxOf? List.findIdx? List.findIdx?.go slotsW slotW disB List.range
set_option maxRecDepth 100000
theorem tmod256 {x : Int} (h : 0 ≤ x) : IntKind.u8.wrap (x.tmod 256) = x % 256 := by
  rw [u8wrap, Int.tmod_eq_emod_of_nonneg h]; omega
theorem tdiv256 {x : Int} (h : 0 ≤ x) : x.tdiv 256 = x / 256 := Int.tdiv_eq_ediv_of_nonneg h
theorem div_pow_succ (x : Int) (k : Nat) : x / 256 ^ k / 256 = x / 256 ^ (k + 1) := by
  rw [Int.pow_succ, Int.ediv_ediv_of_nonneg (Int.pow_nonneg (by decide))]
theorem lf_num (n : Nat) (x : Int) {j : Nat} (h : j < n) : lf (numL n x) j = x / 256 ^ (n - 1 - j) % 256 := by
  unfold lf; rw [List.getD_eq_getElem?_getD, numL_get n x j h]; rfl
/-- k bytes are written, the last ones. -/
def invNumR (x : Int) (n : Nat) (k : Nat) : St :=
  ⟨mkSl 24 [(0, .cv (.val (.int .i64 (x / 256 ^ k)))), (5, .cv (.slc 0 1 0 n none)), (6, .cv (.val (.int .i64 ((n : Int) - 1 - k))))], [(0, .recs 1 n (byf fun j => if n ≤ j + k then lf (numL n x) j else 0))], 1⟩
theorem sp_num (x : Int) (h0 : 0 ≤ x) (h1 : x ≤ 9223372036854775807) (n : Nat) (hn : n ≤ 100) :
    FSpec Try.prog 91 [iV x, iV n] [] (fun v ρ' => v = .cv (.slc 0 1 0 n none) ∧ ρ' = [.recs 1 n (byf (lf (numL n x)))]) := by
  refine FSpec.of follow Try.func91 c91 (Nat.le_of_ble_eq_true rfl) fun hf => ?_
  simp only [sc91, go_sem, reduceIte, reduceCtorEq, Nat.reduceAdd, Nat.reduceMul, Nat.reduceSub, Nat.reduceDiv, Nat.reduceMod, Nat.reduceLeDiff, Nat.reduceEqDiff, Nat.reduceBEq, Nat.reduceBNe, Int.reduceBEq, Int.reduceBNe, Int.reduceAdd, Int.reduceSub, Int.reduceMul, Int.reduceLE, Int.reduceLT, Int.reduceEq, Int.reduceNeg, Int.reduceToNat, Nat.reduceLT]
  repeat (refine And.intro (by first | omega | (unfold inI64; omega) | (simp only [u8min, u8max, u16min, u16max, u32min, u32max]; omega)) ?_)
  refine LoopC.inv follow (invNumR x n) (fun k => k ≤ n) (fun k => n - k) 0 (Nat.zero_le _) (Weak.by [10] 0 ⟨rfl, rfl, rfl, ?_, ?_⟩) ?_
  · simp only [invNumR, mkSl, go_sem, reduceIte, reduceCtorEq, Nat.reduceAdd, Nat.reduceMul, Nat.reduceSub, Nat.reduceDiv, Nat.reduceMod, Nat.reduceLeDiff, Nat.reduceEqDiff, Nat.reduceBEq, Nat.reduceBNe, Int.reduceBEq, Int.reduceBNe, Int.reduceAdd, Int.reduceSub, Int.reduceMul, Int.reduceLE, Int.reduceLT, Int.reduceEq, Int.reduceNeg, Int.reduceToNat, Nat.reduceLT, Int.pow_zero, Int.ediv_one, Int.sub_zero]
    repeat' (first | exact trivial | exact rfl | exact Or.inl rfl | exact slotW_ren _ | exact cvW_ren _ | exact cvsW_ren _ | exact Nat.le_refl _ | exact slotW_frz rfl (Nat.le_refl _) | exact slotW_nil (Nat.le_of_ble_eq_true rfl) | exact cvW_frz rfl (Nat.le_refl _) | exact cvW_nil (Nat.le_of_ble_eq_true rfl) | exact Or.inl fun _ _ => rfl | exact fun _ _ => rfl | exact Nat.le_of_ble_eq_true rfl | refine ⟨Or.inl ⟨Nat.le_of_ble_eq_true rfl, ?_⟩, ?_⟩ | refine ⟨Or.inr ⟨Nat.le_of_ble_eq_true rfl, Nat.le_of_ble_eq_true rfl, Nat.le_of_ble_eq_true rfl⟩, ?_⟩ | exact Or.inr ⟨rfl, rfl, rfl, rfl, Nat.le_of_ble_eq_true rfl, Nat.le_of_ble_eq_true rfl, Nat.le_of_ble_eq_true rfl⟩ | refine ⟨?_, ?_⟩)
  · refine ⟨.inl ⟨Nat.le_of_ble_eq_true rfl, rfl, Nat.le_refl _, .inl fun j hj => rb ?_⟩, trivial⟩
    simp only [byf]
    rw [if_neg (by omega)]
  intro k hk
  simp only [invNumR, mkSl, go_sem, reduceIte, reduceCtorEq, Nat.reduceAdd, Nat.reduceMul, Nat.reduceSub, Nat.reduceDiv, Nat.reduceMod, Nat.reduceLeDiff, Nat.reduceEqDiff, Nat.reduceBEq, Nat.reduceBNe, Int.reduceBEq, Int.reduceBNe, Int.reduceAdd, Int.reduceSub, Int.reduceMul, Int.reduceLE, Int.reduceLT, Int.reduceEq, Int.reduceNeg, Int.reduceToNat, Nat.reduceLT]
  have hx : 0 ≤ x / 256 ^ k := Int.ediv_nonneg h0 (Int.pow_nonneg (by decide))
  refine CondC.of (fun hc => ?_) (fun hc => ?_)
  · simp only [decide_eq_true_eq] at hc
    have hk' : k < n := by omega
    have ht : ((n : Int) - 1 - k).toNat = n - 1 - k := by omega
    have he : (n : Int) - 1 - k - 1 = n - 1 - ((k + 1 : Nat) : Int) := by omega
    have hx2 : 0 ≤ x / 256 ^ (k + 1) := Int.ediv_nonneg h0 (Int.pow_nonneg (by decide))
    have hx3 : x / 256 ^ (k + 1) ≤ x := Int.ediv_le_self _ h0
    simp only [go_sem, reduceIte, reduceCtorEq, Nat.reduceAdd, Nat.reduceMul, Nat.reduceSub, Nat.reduceDiv, Nat.reduceMod, Nat.reduceLeDiff, Nat.reduceEqDiff, Nat.reduceBEq, Nat.reduceBNe, Int.reduceBEq, Int.reduceBNe, Int.reduceAdd, Int.reduceSub, Int.reduceMul, Int.reduceLE, Int.reduceLT, Int.reduceEq, Int.reduceNeg, Int.reduceToNat, Nat.reduceLT, tmod256 hx, tdiv256 hx, ht, div_pow_succ, he]
    repeat (refine And.intro (by first | omega | (unfold inI64; omega) | (simp only [u8min, u8max, u16min, u16max, u32min, u32max]; omega)) ?_)
    refine ⟨k + 1, by omega, by omega, Weak.by [0] 0 ⟨rfl, rfl, rfl, by repeat' (first | exact trivial | exact rfl | exact Or.inl rfl | exact slotW_ren _ | exact cvW_ren _ | exact cvsW_ren _ | exact Nat.le_refl _ | exact slotW_frz rfl (Nat.le_refl _) | exact slotW_nil (Nat.le_of_ble_eq_true rfl) | exact cvW_frz rfl (Nat.le_refl _) | exact cvW_nil (Nat.le_of_ble_eq_true rfl) | exact Or.inl fun _ _ => rfl | exact fun _ _ => rfl | exact Nat.le_of_ble_eq_true rfl | refine ⟨Or.inl ⟨Nat.le_of_ble_eq_true rfl, ?_⟩, ?_⟩ | refine ⟨Or.inr ⟨Nat.le_of_ble_eq_true rfl, Nat.le_of_ble_eq_true rfl, Nat.le_of_ble_eq_true rfl⟩, ?_⟩ | exact Or.inr ⟨rfl, rfl, rfl, rfl, Nat.le_of_ble_eq_true rfl, Nat.le_of_ble_eq_true rfl, Nat.le_of_ble_eq_true rfl⟩ | refine ⟨?_, ?_⟩), ?_⟩⟩
    refine ⟨.inl ⟨Nat.le_of_ble_eq_true rfl, rfl, Nat.le_refl _, .inl fun j hj => rb ?_⟩, trivial⟩
    simp only [byf]
    by_cases hj2 : j = n - 1 - k
    · rw [if_pos hj2, if_pos (by omega), lf_num n x (by omega), hj2, show n - 1 - (n - 1 - k) = k by omega]
    · rw [if_neg hj2]
      (repeat' split) <;> first | rfl | (exfalso; omega)
  · have : k = n := by simp at hc; omega
    subst this
    simp only [go_sem, reduceIte, reduceCtorEq, Nat.reduceAdd, Nat.reduceMul, Nat.reduceSub, Nat.reduceDiv, Nat.reduceMod, Nat.reduceLeDiff, Nat.reduceEqDiff, Nat.reduceBEq, Nat.reduceBNe, Int.reduceBEq, Int.reduceBNe, Int.reduceAdd, Int.reduceSub, Int.reduceMul, Int.reduceLE, Int.reduceLT, Int.reduceEq, Int.reduceNeg, Int.reduceToNat, Nat.reduceLT]
    refine RetC.back [0] ⟨rfl, rfl⟩ ⟨rfl, rfl, by repeat' (first | exact trivial | exact rfl | exact Or.inl rfl | exact slotW_ren _ | exact cvW_ren _ | exact cvsW_ren _ | exact Nat.le_refl _ | exact slotW_frz rfl (Nat.le_refl _) | exact slotW_nil (Nat.le_of_ble_eq_true rfl) | exact cvW_frz rfl (Nat.le_refl _) | exact cvW_nil (Nat.le_of_ble_eq_true rfl) | exact Or.inl fun _ _ => rfl | exact fun _ _ => rfl | exact Nat.le_of_ble_eq_true rfl | refine ⟨Or.inl ⟨Nat.le_of_ble_eq_true rfl, ?_⟩, ?_⟩ | refine ⟨Or.inr ⟨Nat.le_of_ble_eq_true rfl, Nat.le_of_ble_eq_true rfl, Nat.le_of_ble_eq_true rfl⟩, ?_⟩ | exact Or.inr ⟨rfl, rfl, rfl, rfl, Nat.le_of_ble_eq_true rfl, Nat.le_of_ble_eq_true rfl, Nat.le_of_ble_eq_true rfl⟩ | refine ⟨?_, ?_⟩), ?_, trivial, rfl⟩
    refine ⟨⟨rfl, Nat.le_refl _, .inl fun j hj => rb ?_⟩, trivial⟩
    simp only [byf]
    rw [if_pos (by omega)]
theorem val_lt {T : List Int} (h : byts T) {i : Nat} (hi : i ≤ 3) : 0 ≤ valL (T.take i) ∧ valL (T.take i) ≤ 16777216 := by
  have hv := fit_val (byts_take h i) (by rw [List.length_take]; omega)
  refine ⟨hv.1.1, ?_⟩
  have h1 := hv.1.2
  have h2 : (256 : Int) ^ (T.take i).length ≤ 16777216 := by
    have h3 : (T.take i).length ≤ 3 := by rw [List.length_take]; omega
    generalize (T.take i).length = q at *
    have : q = 0 ∨ q = 1 ∨ q = 2 ∨ q = 3 := by omega
    rcases this with rfl | rfl | rfl | rfl <;> decide
  omega
theorem sp_said (T : List Int) (hT : byts T) (hn : T.length ≤ 3) :
    FSpec Try.prog 79 [.cv (lbC T)] [] (fun v ρ' => v = iV (valL T) ∧ ρ' = []) := by
  refine FSpec.of follow Try.func79 c79 (Nat.le_of_ble_eq_true rfl) fun hf => ?_
  simp only [sc79, go_sem, reduceIte, reduceCtorEq, Nat.reduceAdd, Nat.reduceMul, Nat.reduceSub, Nat.reduceDiv, Nat.reduceMod, Nat.reduceLeDiff, Nat.reduceEqDiff, Nat.reduceBEq, Nat.reduceBNe, Int.reduceBEq, Int.reduceBNe, Int.reduceAdd, Int.reduceSub, Int.reduceMul, Int.reduceLE, Int.reduceLT, Int.reduceEq, Int.reduceNeg, Int.reduceToNat, Nat.reduceLT]
  refine LoopC.inv follow (fun i : Nat => ⟨mkSl 20 [(0, .cv (lbC T)), (3, iV (valL (T.take i))), (4, iV i)], [], 0⟩) (fun i => i ≤ T.length) (fun i => T.length - i) 0 (Nat.zero_le _) (Weak.b [] 0) ?_
  intro i hi
  simp only [mkSl, go_sem, reduceIte, reduceCtorEq, Nat.reduceAdd, Nat.reduceMul, Nat.reduceSub, Nat.reduceDiv, Nat.reduceMod, Nat.reduceLeDiff, Nat.reduceEqDiff, Nat.reduceBEq, Nat.reduceBNe, Int.reduceBEq, Int.reduceBNe, Int.reduceAdd, Int.reduceSub, Int.reduceMul, Int.reduceLE, Int.reduceLT, Int.reduceEq, Int.reduceNeg, Int.reduceToNat, Nat.reduceLT]
  refine CondC.of (fun hc => ?_) (fun hc => ?_)
  · simp only [decide_eq_true_eq] at hc
    have hc' : i < T.length := by omega
    have h8 := lf_byt hT i
    have hv := val_lt hT (i := i) (by omega)
    have hv2 := val_lt hT (i := i + 1) (by omega)
    have hsucc := val_step T i hc'
    simp only [go_sem, reduceIte, reduceCtorEq, Nat.reduceAdd, Nat.reduceMul, Nat.reduceSub, Nat.reduceDiv, Nat.reduceMod, Nat.reduceLeDiff, Nat.reduceEqDiff, Nat.reduceBEq, Nat.reduceBNe, Int.reduceBEq, Int.reduceBNe, Int.reduceAdd, Int.reduceSub, Int.reduceMul, Int.reduceLE, Int.reduceLT, Int.reduceEq, Int.reduceNeg, Int.reduceToNat, Nat.reduceLT, ← hsucc]
    repeat (refine And.intro (by first | omega | (unfold inI64; omega) | (simp only [u8min, u8max, u16min, u16max, u32min, u32max]; omega)) ?_)
    refine ⟨i + 1, by omega, by omega, Weak.b [] 0⟩
  · have : i = T.length := by simp at hc; omega
    subst this
    simp only [List.take_length, go_sem, reduceIte, reduceCtorEq, Nat.reduceAdd, Nat.reduceMul, Nat.reduceSub, Nat.reduceDiv, Nat.reduceMod, Nat.reduceLeDiff, Nat.reduceEqDiff, Nat.reduceBEq, Nat.reduceBNe, Int.reduceBEq, Int.reduceBNe, Int.reduceAdd, Int.reduceSub, Int.reduceMul, Int.reduceLE, Int.reduceLT, Int.reduceEq, Int.reduceNeg, Int.reduceToNat, Nat.reduceLT]
    refine RetC.bk [] ⟨rfl, rfl⟩
end Go.Proofs.Ytbhefgajgdcajaa

/- Writing: the document's. -/
namespace Go.Proofs.Ytbhefgajgdcajaa
open Sx
attribute [local go_sem] wpC_skip wpC_reg wpC_draw wpC_seq wpC_block wpC_cond wpC_loop wpC_exit wpC_join joinK_n joinK_e joinK_r wpC_ret seqK_n seqK_e seqK_r blockK_n blockK_e blockK_r Fs_nil Fs_none Fs_some stepS_eq Fc_nil Fc_none Fc_some stepC_eq opFn ev cval lk need SV.nm enumR setS setR setRs cellsOf svOf rget spliceC rset src oint eqCells cvs fillC rows ints svDest keyOf2 ridC widens ibool icalc ibin List.replicate List.getD_cons_zero List.getD_cons_succ List.getD_nil List.set_cons_zero List.set_cons_succ List.map_cons List.map_nil List.foldl_cons List.foldl_nil List.length_cons List.length_nil List.drop_zero List.drop_succ_cons List.drop_nil List.take_succ_cons List.take_zero List.take_nil List.cons_append List.nil_append List.append_nil List.headD_cons List.flatten_cons List.flatten_nil Option.map_some Option.map_none Option.getD_none Option.getD_some true_and and_true Nat.zero_add Nat.add_zero appFn svRoom sameO beq_self_eq_true Nat.zero_mul Nat.mul_zero Nat.sub_zero Nat.zero_le Nat.le_refl and_self okB Bool.not_false Bool.true_or Bool.false_or Bool.not_true List.all_nil List.all_cons Int.toNat_zero Int.toNat_one CondC_true CondC_false beq_true beq_false opEn callEn skipEn slotsOf tmpsOf SOp.operands oo free disj List.contains_cons List.contains_nil Option.toList_some Option.toList_none Bool.and_true Bool.true_and Bool.or_false Bool.or_true Bool.and_self Bool.and_false Bool.false_and decide_true decide_false List.range'_succ List.range'_zero Int.toNat_natCast Int.natCast_nonneg Int.cast_ofNat_Int ne_eq not_false_eq_true updGiven updNew getR muOf nuOf owned isRo List.range.loop List.filter SV.ren CV.ren CV.renL SV.renL Res.ren List.length List.idxOf? List.findIdx? List.findIdx?.go slotsW slotW disB List.range
set_option maxRecDepth 100000
theorem row_app (K l : List Int) {j : Nat} : (if j < K.length then byf (lf K) j else byf (lf l) (j - K.length)) = byf (lf (K ++ l)) j := by
  simp only [byf, lf_app]
  split <;> rfl
theorem sp_rwNum (x : Int) (h0 : 0 ≤ x) (h1 : x ≤ 9223372036854775807) (n : Nat) (hn : n ≤ 3) (L : List Int) (hL : L.length ≤ 1000000) : FSpec Try.prog 64 [.cv (.ptr 0 0 0 0), iV x, iV n] (wR L) (fun v ρ' => v = .tup [] ∧ ρ' = wP (L ++ numL n x)) := by
  obtain ⟨K, hK, hlen⟩ : ∃ K, L ++ numL n x = K ∧ K.length = L.length + n := ⟨_, rfl, by rw [List.length_append, numL_len]⟩
  have hst : ∀ j, j < K.length → (if j < L.length then byf (lf L) j else byf (lf (numL n x)) (j - L.length)) = byf (lf K) j := fun j _ => by rw [← hK]; exact row_app L _
  rw [hK]
  refine FSpec.of follow Try.func64 c64 (Nat.le_of_ble_eq_true rfl) fun hf => ?_
  simp only [sc64, go_sem, reduceIte, reduceCtorEq, Nat.reduceAdd, Nat.reduceMul, Nat.reduceSub, Nat.reduceDiv, Nat.reduceMod, Nat.reduceLeDiff, Nat.reduceEqDiff, Nat.reduceBEq, Nat.reduceBNe, Int.reduceBEq, Int.reduceBNe, Int.reduceAdd, Int.reduceSub, Int.reduceMul, Int.reduceLE, Int.reduceLT, Int.reduceEq, Int.reduceNeg, Int.reduceToNat, Nat.reduceLT]
  refine CallC.os (sp_num x h0 h1 n (by omega)) [] ?_
  rintro v ρ' ⟨rfl, rfl⟩
  simp only [go_sem, reduceIte, reduceCtorEq, Nat.reduceAdd, Nat.reduceMul, Nat.reduceSub, Nat.reduceDiv, Nat.reduceMod, Nat.reduceLeDiff, Nat.reduceEqDiff, Nat.reduceBEq, Nat.reduceBNe, Int.reduceBEq, Int.reduceBNe, Int.reduceAdd, Int.reduceSub, Int.reduceMul, Int.reduceLE, Int.reduceLT, Int.reduceEq, Int.reduceNeg, Int.reduceToNat, Nat.reduceLT]
  repeat (refine And.intro (by first | omega | (unfold inI64; omega) | (simp only [u8min, u8max, u16min, u16max, u32min, u32max]; omega)) ?_)
  rw [← hlen]
  exact RetC.off [10] ⟨rfl, rfl⟩ ⟨rfl, rfl, by repeat' (first | exact trivial | exact rfl | exact Or.inl rfl | exact slotW_ren _ | exact cvW_ren _ | exact cvsW_ren _ | exact Nat.le_refl _ | exact slotW_frz rfl (Nat.le_refl _) | exact slotW_nil (Nat.le_of_ble_eq_true rfl) | exact cvW_frz rfl (Nat.le_refl _) | exact cvW_nil (Nat.le_of_ble_eq_true rfl) | exact Or.inl fun _ _ => rfl | exact fun _ _ => rfl | exact Nat.le_of_ble_eq_true rfl | refine ⟨Or.inl ⟨Nat.le_of_ble_eq_true rfl, ?_⟩, ?_⟩ | refine ⟨Or.inr ⟨Nat.le_of_ble_eq_true rfl, Nat.le_of_ble_eq_true rfl, Nat.le_of_ble_eq_true rfl⟩, ?_⟩ | exact Or.inr ⟨rfl, rfl, rfl, rfl, Nat.le_of_ble_eq_true rfl, Nat.le_of_ble_eq_true rfl, Nat.le_of_ble_eq_true rfl⟩ | refine ⟨?_, ?_⟩), ⟨by repeat' (first | exact trivial | exact rfl | exact Or.inl rfl | exact slotW_ren _ | exact cvW_ren _ | exact cvsW_ren _ | exact Nat.le_refl _ | exact slotW_frz rfl (Nat.le_refl _) | exact slotW_nil (Nat.le_of_ble_eq_true rfl) | exact cvW_frz rfl (Nat.le_refl _) | exact cvW_nil (Nat.le_of_ble_eq_true rfl) | exact Or.inl fun _ _ => rfl | exact fun _ _ => rfl | exact Nat.le_of_ble_eq_true rfl | refine ⟨Or.inl ⟨Nat.le_of_ble_eq_true rfl, ?_⟩, ?_⟩ | refine ⟨Or.inr ⟨Nat.le_of_ble_eq_true rfl, Nat.le_of_ble_eq_true rfl, Nat.le_of_ble_eq_true rfl⟩, ?_⟩ | exact Or.inr ⟨rfl, rfl, rfl, rfl, Nat.le_of_ble_eq_true rfl, Nat.le_of_ble_eq_true rfl, Nat.le_of_ble_eq_true rfl⟩ | refine ⟨?_, ?_⟩), trivial, ⟨rfl, Nat.le_refl _, .inl fun j hj => rb (hst j hj)⟩, trivial⟩, trivial, rfl⟩
theorem sp_rwNum0 (x : Int) (h0 : 0 ≤ x) (h1 : x ≤ 9223372036854775807) (n : Nat) (hn : n ≤ 3) : FSpec Try.prog 64 [.cv (.ptr 0 0 0 0), iV x, iV n] [.cells [.val (.slice none 0 0)]] (fun v ρ' => v = .tup [] ∧ ρ' = wR (numL n x)) := by
  obtain ⟨K, hK, hlen⟩ : ∃ K, numL n x = K ∧ K.length = n := ⟨_, rfl, numL_len n x⟩
  rw [hK]
  refine FSpec.of follow Try.func64 c64 (Nat.le_of_ble_eq_true rfl) fun hf => ?_
  simp only [sc64, go_sem, reduceIte, reduceCtorEq, Nat.reduceAdd, Nat.reduceMul, Nat.reduceSub, Nat.reduceDiv, Nat.reduceMod, Nat.reduceLeDiff, Nat.reduceEqDiff, Nat.reduceBEq, Nat.reduceBNe, Int.reduceBEq, Int.reduceBNe, Int.reduceAdd, Int.reduceSub, Int.reduceMul, Int.reduceLE, Int.reduceLT, Int.reduceEq, Int.reduceNeg, Int.reduceToNat, Nat.reduceLT]
  refine CallC.os (sp_num x h0 h1 n (by omega)) [] ?_
  rintro v ρ' ⟨rfl, rfl⟩
  rw [hK]
  simp only [go_sem, reduceIte, reduceCtorEq, Nat.reduceAdd, Nat.reduceMul, Nat.reduceSub, Nat.reduceDiv, Nat.reduceMod, Nat.reduceLeDiff, Nat.reduceEqDiff, Nat.reduceBEq, Nat.reduceBNe, Int.reduceBEq, Int.reduceBNe, Int.reduceAdd, Int.reduceSub, Int.reduceMul, Int.reduceLE, Int.reduceLT, Int.reduceEq, Int.reduceNeg, Int.reduceToNat, Nat.reduceLT]
  repeat (refine And.intro (by first | omega | (unfold inI64; omega) | (simp only [u8min, u8max, u16min, u16max, u32min, u32max]; omega)) ?_)
  subst hlen
  exact RetC.off [9] ⟨rfl, rfl⟩ ⟨rfl, rfl, by repeat' (first | exact trivial | exact rfl | exact Or.inl rfl | exact slotW_ren _ | exact cvW_ren _ | exact cvsW_ren _ | exact Nat.le_refl _ | exact slotW_frz rfl (Nat.le_refl _) | exact slotW_nil (Nat.le_of_ble_eq_true rfl) | exact cvW_frz rfl (Nat.le_refl _) | exact cvW_nil (Nat.le_of_ble_eq_true rfl) | exact Or.inl fun _ _ => rfl | exact fun _ _ => rfl | exact Nat.le_of_ble_eq_true rfl | refine ⟨Or.inl ⟨Nat.le_of_ble_eq_true rfl, ?_⟩, ?_⟩ | refine ⟨Or.inr ⟨Nat.le_of_ble_eq_true rfl, Nat.le_of_ble_eq_true rfl, Nat.le_of_ble_eq_true rfl⟩, ?_⟩ | exact Or.inr ⟨rfl, rfl, rfl, rfl, Nat.le_of_ble_eq_true rfl, Nat.le_of_ble_eq_true rfl, Nat.le_of_ble_eq_true rfl⟩ | refine ⟨?_, ?_⟩), by repeat' (first | exact trivial | exact rfl | exact Or.inl rfl | exact slotW_ren _ | exact cvW_ren _ | exact cvsW_ren _ | exact Nat.le_refl _ | exact slotW_frz rfl (Nat.le_refl _) | exact slotW_nil (Nat.le_of_ble_eq_true rfl) | exact cvW_frz rfl (Nat.le_refl _) | exact cvW_nil (Nat.le_of_ble_eq_true rfl) | exact Or.inl fun _ _ => rfl | exact fun _ _ => rfl | exact Nat.le_of_ble_eq_true rfl | refine ⟨Or.inl ⟨Nat.le_of_ble_eq_true rfl, ?_⟩, ?_⟩ | refine ⟨Or.inr ⟨Nat.le_of_ble_eq_true rfl, Nat.le_of_ble_eq_true rfl, Nat.le_of_ble_eq_true rfl⟩, ?_⟩ | exact Or.inr ⟨rfl, rfl, rfl, rfl, Nat.le_of_ble_eq_true rfl, Nat.le_of_ble_eq_true rfl, Nat.le_of_ble_eq_true rfl⟩ | refine ⟨?_, ?_⟩), trivial, rfl⟩
theorem fit_big {n : Nat} (hn : n ≤ 3) {x : Int} (h : fit n x) : 0 ≤ x ∧ x ≤ 9223372036854775807 := by
  have h1 := pow_small hn
  have h2 := h.2
  exact ⟨h.1, by omega⟩
theorem sp_rwN {n : Nat} (hn : n ≤ 3) {x : Int} (h : fit n x) (L : List Int) (hL : L.length ≤ 1000000) : FSpec Try.prog 64 [.cv (.ptr 0 0 0 0), iV x, iV n] (wR L) (fun v ρ' => v = .tup [] ∧ ρ' = wP (L ++ numL n x)) := sp_rwNum x (fit_big hn h).1 (fit_big hn h).2 n hn L hL
theorem sp_rwRid {a b : Int} (ha : fit 1 a) (hb : fit 1 b) (L : List Int) (hL : L.length ≤ 900000) : FSpec Try.prog 65 [.cv (.ptr 0 0 0 0), .agg [iC a, iC b]] (wR L) (fun v ρ' => v = .tup [] ∧ ρ' = wP (L ++ (numL 1 a ++ numL 1 b))) := by
  have h1 := sp_rwN (by omega) ha L (by omega)
  have h2 := sp_rwN (by omega) hb (L ++ numL 1 a) (by rw [List.length_append, numL_len]; omega)
  rw [← List.append_assoc]
  obtain ⟨M, hM⟩ : ∃ M, L ++ numL 1 a = M := ⟨_, rfl⟩
  rw [hM] at h1 h2 ⊢
  obtain ⟨K, hK⟩ : ∃ K, M ++ numL 1 b = K := ⟨_, rfl⟩
  rw [hK] at h2 ⊢
  refine FSpec.of follow Try.func65 c65 (Nat.le_of_ble_eq_true rfl) fun hf => ?_
  simp only [sc65, go_sem, reduceIte, reduceCtorEq, Nat.reduceAdd, Nat.reduceMul, Nat.reduceSub, Nat.reduceDiv, Nat.reduceMod, Nat.reduceLeDiff, Nat.reduceEqDiff, Nat.reduceBEq, Nat.reduceBNe, Int.reduceBEq, Int.reduceBNe, Int.reduceAdd, Int.reduceSub, Int.reduceMul, Int.reduceLE, Int.reduceLT, Int.reduceEq, Int.reduceNeg, Int.reduceToNat, Nat.reduceLT]
  refine CallC.os h1 [0, 1] ?_
  rintro v ρ' ⟨rfl, rfl⟩
  simp only [go_sem, reduceIte, reduceCtorEq, Nat.reduceAdd, Nat.reduceMul, Nat.reduceSub, Nat.reduceDiv, Nat.reduceMod, Nat.reduceLeDiff, Nat.reduceEqDiff, Nat.reduceBEq, Nat.reduceBNe, Int.reduceBEq, Int.reduceBNe, Int.reduceAdd, Int.reduceSub, Int.reduceMul, Int.reduceLE, Int.reduceLT, Int.reduceEq, Int.reduceNeg, Int.reduceToNat, Nat.reduceLT]
  refine CallC.os h2 [0, 39] ?_
  rintro v ρ' ⟨rfl, rfl⟩
  simp only [go_sem, reduceIte, reduceCtorEq, Nat.reduceAdd, Nat.reduceMul, Nat.reduceSub, Nat.reduceDiv, Nat.reduceMod, Nat.reduceLeDiff, Nat.reduceEqDiff, Nat.reduceBEq, Nat.reduceBNe, Int.reduceBEq, Int.reduceBNe, Int.reduceAdd, Int.reduceSub, Int.reduceMul, Int.reduceLE, Int.reduceLT, Int.reduceEq, Int.reduceNeg, Int.reduceToNat, Nat.reduceLT]
  exact RetC.off [75] ⟨rfl, rfl⟩ ⟨rfl, rfl, by repeat' (first | exact trivial | exact rfl | exact Or.inl rfl | exact slotW_ren _ | exact cvW_ren _ | exact cvsW_ren _ | exact Nat.le_refl _ | exact slotW_frz rfl (Nat.le_refl _) | exact slotW_nil (Nat.le_of_ble_eq_true rfl) | exact cvW_frz rfl (Nat.le_refl _) | exact cvW_nil (Nat.le_of_ble_eq_true rfl) | exact Or.inl fun _ _ => rfl | exact fun _ _ => rfl | exact Nat.le_of_ble_eq_true rfl | refine ⟨Or.inl ⟨Nat.le_of_ble_eq_true rfl, ?_⟩, ?_⟩ | refine ⟨Or.inr ⟨Nat.le_of_ble_eq_true rfl, Nat.le_of_ble_eq_true rfl, Nat.le_of_ble_eq_true rfl⟩, ?_⟩ | exact Or.inr ⟨rfl, rfl, rfl, rfl, Nat.le_of_ble_eq_true rfl, Nat.le_of_ble_eq_true rfl, Nat.le_of_ble_eq_true rfl⟩ | refine ⟨?_, ?_⟩), by repeat' (first | exact trivial | exact rfl | exact Or.inl rfl | exact slotW_ren _ | exact cvW_ren _ | exact cvsW_ren _ | exact Nat.le_refl _ | exact slotW_frz rfl (Nat.le_refl _) | exact slotW_nil (Nat.le_of_ble_eq_true rfl) | exact cvW_frz rfl (Nat.le_refl _) | exact cvW_nil (Nat.le_of_ble_eq_true rfl) | exact Or.inl fun _ _ => rfl | exact fun _ _ => rfl | exact Nat.le_of_ble_eq_true rfl | refine ⟨Or.inl ⟨Nat.le_of_ble_eq_true rfl, ?_⟩, ?_⟩ | refine ⟨Or.inr ⟨Nat.le_of_ble_eq_true rfl, Nat.le_of_ble_eq_true rfl, Nat.le_of_ble_eq_true rfl⟩, ?_⟩ | exact Or.inr ⟨rfl, rfl, rfl, rfl, Nat.le_of_ble_eq_true rfl, Nat.le_of_ble_eq_true rfl, Nat.le_of_ble_eq_true rfl⟩ | refine ⟨?_, ?_⟩), trivial, rfl⟩
theorem sp_rwCell (l : List Int) (hl : img l) (L : List Int) (hL : L.length ≤ 900000) : FSpec Try.prog 66 [.cv (.ptr 0 0 0 0), .cv (lbC l)] (wR L) (fun v ρ' => v = .tup [] ∧ ρ' = wP (L ++ wrI l)) := by
  have hl2 : l.length ≤ 26 := by rcases hl with h | h <;> omega
  have h1 := sp_rwN (by omega) (fit_img hl) L (by omega)
  have hMl : (L ++ numL 1 (l.length : Int)).length ≤ 900001 := by rw [List.length_append, numL_len]; omega
  unfold wrI
  rw [← List.append_assoc]
  obtain ⟨M, hM⟩ : ∃ M, L ++ numL 1 (l.length : Int) = M := ⟨_, rfl⟩
  rw [hM] at h1 hMl ⊢
  obtain ⟨K, hK, hlen⟩ : ∃ K, M ++ l = K ∧ K.length = M.length + l.length := ⟨_, rfl, by simp⟩
  have hst : ∀ j, j < K.length → (if j < M.length then [CV.val (.int .u8 (lf M j))] else byf (lf l) (j - M.length)) = byf (lf K) j := fun j _ => by rw [← hK]; exact row_app M l
  rw [hK]
  refine FSpec.of follow Try.func66 c66 (Nat.le_of_ble_eq_true rfl) fun hf => ?_
  simp only [sc66, go_sem, reduceIte, reduceCtorEq, Nat.reduceAdd, Nat.reduceMul, Nat.reduceSub, Nat.reduceDiv, Nat.reduceMod, Nat.reduceLeDiff, Nat.reduceEqDiff, Nat.reduceBEq, Nat.reduceBNe, Int.reduceBEq, Int.reduceBNe, Int.reduceAdd, Int.reduceSub, Int.reduceMul, Int.reduceLE, Int.reduceLT, Int.reduceEq, Int.reduceNeg, Int.reduceToNat, Nat.reduceLT]
  refine CallC.os h1 [0, 1] ?_
  rintro v ρ' ⟨rfl, rfl⟩
  simp only [go_sem, reduceIte, reduceCtorEq, Nat.reduceAdd, Nat.reduceMul, Nat.reduceSub, Nat.reduceDiv, Nat.reduceMod, Nat.reduceLeDiff, Nat.reduceEqDiff, Nat.reduceBEq, Nat.reduceBNe, Int.reduceBEq, Int.reduceBNe, Int.reduceAdd, Int.reduceSub, Int.reduceMul, Int.reduceLE, Int.reduceLT, Int.reduceEq, Int.reduceNeg, Int.reduceToNat, Nat.reduceLT]
  repeat (refine And.intro (by first | omega | (unfold inI64; omega) | (simp only [u8min, u8max, u16min, u16max, u32min, u32max]; omega)) ?_)
  rw [← hlen]
  exact RetC.off [44] ⟨rfl, rfl⟩ ⟨rfl, rfl, by repeat' (first | exact trivial | exact rfl | exact Or.inl rfl | exact slotW_ren _ | exact cvW_ren _ | exact cvsW_ren _ | exact Nat.le_refl _ | exact slotW_frz rfl (Nat.le_refl _) | exact slotW_nil (Nat.le_of_ble_eq_true rfl) | exact cvW_frz rfl (Nat.le_refl _) | exact cvW_nil (Nat.le_of_ble_eq_true rfl) | exact Or.inl fun _ _ => rfl | exact fun _ _ => rfl | exact Nat.le_of_ble_eq_true rfl | refine ⟨Or.inl ⟨Nat.le_of_ble_eq_true rfl, ?_⟩, ?_⟩ | refine ⟨Or.inr ⟨Nat.le_of_ble_eq_true rfl, Nat.le_of_ble_eq_true rfl, Nat.le_of_ble_eq_true rfl⟩, ?_⟩ | exact Or.inr ⟨rfl, rfl, rfl, rfl, Nat.le_of_ble_eq_true rfl, Nat.le_of_ble_eq_true rfl, Nat.le_of_ble_eq_true rfl⟩ | refine ⟨?_, ?_⟩), ⟨by repeat' (first | exact trivial | exact rfl | exact Or.inl rfl | exact slotW_ren _ | exact cvW_ren _ | exact cvsW_ren _ | exact Nat.le_refl _ | exact slotW_frz rfl (Nat.le_refl _) | exact slotW_nil (Nat.le_of_ble_eq_true rfl) | exact cvW_frz rfl (Nat.le_refl _) | exact cvW_nil (Nat.le_of_ble_eq_true rfl) | exact Or.inl fun _ _ => rfl | exact fun _ _ => rfl | exact Nat.le_of_ble_eq_true rfl | refine ⟨Or.inl ⟨Nat.le_of_ble_eq_true rfl, ?_⟩, ?_⟩ | refine ⟨Or.inr ⟨Nat.le_of_ble_eq_true rfl, Nat.le_of_ble_eq_true rfl, Nat.le_of_ble_eq_true rfl⟩, ?_⟩ | exact Or.inr ⟨rfl, rfl, rfl, rfl, Nat.le_of_ble_eq_true rfl, Nat.le_of_ble_eq_true rfl, Nat.le_of_ble_eq_true rfl⟩ | refine ⟨?_, ?_⟩), trivial, ⟨rfl, Nat.le_refl _, .inl fun j hj => rb (hst j hj)⟩, trivial⟩, trivial, rfl⟩
set_option maxHeartbeats 4000000 in
theorem sp_rwMoves (l : List Mv) (hl : each fitM l) (L : List Int) (hL : L.length ≤ 800000) : FSpec Try.prog 67 [.cv (.ptr 0 0 0 0), .cv (mvS l)] (wR L) (fun v ρ' => v = .tup [] ∧ ρ' = wP (L ++ wrS wrM l)) := by
  have hl1 := hl.1
  have h1 := sp_rwN (by omega) (fit_len hl.1) L (by omega)
  have hMl : (L ++ numL 1 (l.length : Int)).length ≤ 800001 := by rw [List.length_append, numL_len]; omega
  unfold wrS
  rw [← List.append_assoc]
  obtain ⟨M, hM⟩ : ∃ M, L ++ numL 1 (l.length : Int) = M := ⟨_, rfl⟩
  rw [hM] at h1 hMl ⊢
  refine FSpec.of follow Try.func67 c67 (Nat.le_of_ble_eq_true rfl) fun hf => ?_
  simp only [sc67, go_sem, reduceIte, reduceCtorEq, Nat.reduceAdd, Nat.reduceMul, Nat.reduceSub, Nat.reduceDiv, Nat.reduceMod, Nat.reduceLeDiff, Nat.reduceEqDiff, Nat.reduceBEq, Nat.reduceBNe, Int.reduceBEq, Int.reduceBNe, Int.reduceAdd, Int.reduceSub, Int.reduceMul, Int.reduceLE, Int.reduceLT, Int.reduceEq, Int.reduceNeg, Int.reduceToNat, Nat.reduceLT]
  refine CallC.os h1 [0, 1] ?_
  rintro v ρ' ⟨rfl, rfl⟩
  simp only [go_sem, reduceIte, reduceCtorEq, Nat.reduceAdd, Nat.reduceMul, Nat.reduceSub, Nat.reduceDiv, Nat.reduceMod, Nat.reduceLeDiff, Nat.reduceEqDiff, Nat.reduceBEq, Nat.reduceBNe, Int.reduceBEq, Int.reduceBNe, Int.reduceAdd, Int.reduceSub, Int.reduceMul, Int.reduceLE, Int.reduceLT, Int.reduceEq, Int.reduceNeg, Int.reduceToNat, Nat.reduceLT]
  refine LoopC.inv follow (fun y : Nat × List Int => ⟨mkSl 29 [(0, .cv (.ptr 0 0 0 0)), (1, .cv (mvS l)), (4, iV y.1)], [(0, .cells [.slc 2 1 0 y.2.length none]), (1, .gone), (2, .recs 1 y.2.length (byf (lf y.2)))], 3⟩)
    (fun y => y.1 ≤ l.length ∧ y.2 = M ++ (l.take y.1).flatMap wrM) (fun y => l.length - y.1) (0, M) ⟨Nat.zero_le _, (List.append_nil M).symm⟩ (Weak.b [0, 1, 30] 0) ?_
  rintro ⟨i, K⟩ ⟨hi, hK⟩
  dsimp only at hi hK
  simp only [mkSl, go_sem, reduceIte, reduceCtorEq, Nat.reduceAdd, Nat.reduceMul, Nat.reduceSub, Nat.reduceDiv, Nat.reduceMod, Nat.reduceLeDiff, Nat.reduceEqDiff, Nat.reduceBEq, Nat.reduceBNe, Int.reduceBEq, Int.reduceBNe, Int.reduceAdd, Int.reduceSub, Int.reduceMul, Int.reduceLE, Int.reduceLT, Int.reduceEq, Int.reduceNeg, Int.reduceToNat, Nat.reduceLT]
  refine CondC.of (fun hc => ?_) (fun hc => ?_)
  · simp only [decide_eq_true_eq] at hc
    have hc' : i < l.length := by omega
    have hKl : K.length ≤ 800001 + 40 * 4 := by
      have h1 := flat_le wrM 4 (l.take i) fun x hx => by unfold wrM; simp only [List.length_append, numL_len]; omega
      have h2 : (l.take i).length * 4 ≤ 40 * 4 := Nat.mul_le_mul_right _ (by rw [List.length_take]; omega)
      rw [hK, List.length_append]; omega
    have hx := hl.2 _ (getD_mem hc' (0, 0, 0, 0))
    have hs1 := sp_rwRid hx.1.1 hx.1.2 K (by omega)
    have hs2 := sp_rwRid hx.2.1 hx.2.2 (K ++ (numL 1 (l.getD i (0, 0, 0, 0)).1 ++ numL 1 (l.getD i (0, 0, 0, 0)).2.1)) (by simp only [List.length_append, numL_len]; omega)
    have he2 : K ++ (numL 1 (l.getD i (0, 0, 0, 0)).1 ++ numL 1 (l.getD i (0, 0, 0, 0)).2.1) ++ (numL 1 (l.getD i (0, 0, 0, 0)).2.2.1 ++ numL 1 (l.getD i (0, 0, 0, 0)).2.2.2) = M ++ (l.take (i + 1)).flatMap wrM := by
      rw [hK, flat_step wrM (0, 0, 0, 0) l i hc']
      unfold wrM
      simp only [List.append_assoc]
    obtain ⟨K1, hK1⟩ : ∃ K1, K ++ (numL 1 (l.getD i (0, 0, 0, 0)).1 ++ numL 1 (l.getD i (0, 0, 0, 0)).2.1) = K1 := ⟨_, rfl⟩
    rw [hK1] at hs1 hs2 he2
    obtain ⟨K2, hK2⟩ : ∃ K2, K1 ++ (numL 1 (l.getD i (0, 0, 0, 0)).2.2.1 ++ numL 1 (l.getD i (0, 0, 0, 0)).2.2.2) = K2 := ⟨_, rfl⟩
    rw [hK2] at hs2 he2
    simp only [go_sem, reduceIte, reduceCtorEq, Nat.reduceAdd, Nat.reduceMul, Nat.reduceSub, Nat.reduceDiv, Nat.reduceMod, Nat.reduceLeDiff, Nat.reduceEqDiff, Nat.reduceBEq, Nat.reduceBNe, Int.reduceBEq, Int.reduceBNe, Int.reduceAdd, Int.reduceSub, Int.reduceMul, Int.reduceLE, Int.reduceLT, Int.reduceEq, Int.reduceNeg, Int.reduceToNat, Nat.reduceLT]
    repeat (refine And.intro (by first | omega | (unfold inI64; omega) | (simp only [u8min, u8max, u16min, u16max, u32min, u32max]; omega)) ?_)
    refine CallC.os hs1 [0, 2] ?_
    rintro v ρ' ⟨rfl, rfl⟩
    simp only [go_sem, reduceIte, reduceCtorEq, Nat.reduceAdd, Nat.reduceMul, Nat.reduceSub, Nat.reduceDiv, Nat.reduceMod, Nat.reduceLeDiff, Nat.reduceEqDiff, Nat.reduceBEq, Nat.reduceBNe, Int.reduceBEq, Int.reduceBNe, Int.reduceAdd, Int.reduceSub, Int.reduceMul, Int.reduceLE, Int.reduceLT, Int.reduceEq, Int.reduceNeg, Int.reduceToNat, Nat.reduceLT]
    repeat (refine And.intro (by first | omega | (unfold inI64; omega) | (simp only [u8min, u8max, u16min, u16max, u32min, u32max]; omega)) ?_)
    refine CallC.os hs2 [0, 94] ?_
    rintro v ρ' ⟨rfl, rfl⟩
    simp only [go_sem, reduceIte, reduceCtorEq, Nat.reduceAdd, Nat.reduceMul, Nat.reduceSub, Nat.reduceDiv, Nat.reduceMod, Nat.reduceLeDiff, Nat.reduceEqDiff, Nat.reduceBEq, Nat.reduceBNe, Int.reduceBEq, Int.reduceBNe, Int.reduceAdd, Int.reduceSub, Int.reduceMul, Int.reduceLE, Int.reduceLT, Int.reduceEq, Int.reduceNeg, Int.reduceToNat, Nat.reduceLT]
    repeat (refine And.intro (by first | omega | (unfold inI64; omega) | (simp only [u8min, u8max, u16min, u16max, u32min, u32max]; omega)) ?_)
    exact ⟨(i + 1, K2), ⟨by dsimp only; omega, he2⟩, by dsimp only; omega, Weak.b [0, 1, 157] 0⟩
  · simp only [decide_eq_false_iff_not] at hc
    obtain rfl : i = l.length := by omega
    rw [List.take_length] at hK
    rw [← hK]
    simp only [go_sem, reduceIte, reduceCtorEq, Nat.reduceAdd, Nat.reduceMul, Nat.reduceSub, Nat.reduceDiv, Nat.reduceMod, Nat.reduceLeDiff, Nat.reduceEqDiff, Nat.reduceBEq, Nat.reduceBNe, Int.reduceBEq, Int.reduceBNe, Int.reduceAdd, Int.reduceSub, Int.reduceMul, Int.reduceLE, Int.reduceLT, Int.reduceEq, Int.reduceNeg, Int.reduceToNat, Nat.reduceLT]
    exact RetC.off [2] ⟨rfl, rfl⟩ ⟨rfl, rfl, by repeat' (first | exact trivial | exact rfl | exact Or.inl rfl | exact slotW_ren _ | exact cvW_ren _ | exact cvsW_ren _ | exact Nat.le_refl _ | exact slotW_frz rfl (Nat.le_refl _) | exact slotW_nil (Nat.le_of_ble_eq_true rfl) | exact cvW_frz rfl (Nat.le_refl _) | exact cvW_nil (Nat.le_of_ble_eq_true rfl) | exact Or.inl fun _ _ => rfl | exact fun _ _ => rfl | exact Nat.le_of_ble_eq_true rfl | refine ⟨Or.inl ⟨Nat.le_of_ble_eq_true rfl, ?_⟩, ?_⟩ | refine ⟨Or.inr ⟨Nat.le_of_ble_eq_true rfl, Nat.le_of_ble_eq_true rfl, Nat.le_of_ble_eq_true rfl⟩, ?_⟩ | exact Or.inr ⟨rfl, rfl, rfl, rfl, Nat.le_of_ble_eq_true rfl, Nat.le_of_ble_eq_true rfl, Nat.le_of_ble_eq_true rfl⟩ | refine ⟨?_, ?_⟩), by repeat' (first | exact trivial | exact rfl | exact Or.inl rfl | exact slotW_ren _ | exact cvW_ren _ | exact cvsW_ren _ | exact Nat.le_refl _ | exact slotW_frz rfl (Nat.le_refl _) | exact slotW_nil (Nat.le_of_ble_eq_true rfl) | exact cvW_frz rfl (Nat.le_refl _) | exact cvW_nil (Nat.le_of_ble_eq_true rfl) | exact Or.inl fun _ _ => rfl | exact fun _ _ => rfl | exact Nat.le_of_ble_eq_true rfl | refine ⟨Or.inl ⟨Nat.le_of_ble_eq_true rfl, ?_⟩, ?_⟩ | refine ⟨Or.inr ⟨Nat.le_of_ble_eq_true rfl, Nat.le_of_ble_eq_true rfl, Nat.le_of_ble_eq_true rfl⟩, ?_⟩ | exact Or.inr ⟨rfl, rfl, rfl, rfl, Nat.le_of_ble_eq_true rfl, Nat.le_of_ble_eq_true rfl, Nat.le_of_ble_eq_true rfl⟩ | refine ⟨?_, ?_⟩), trivial, rfl⟩
end Go.Proofs.Ytbhefgajgdcajaa

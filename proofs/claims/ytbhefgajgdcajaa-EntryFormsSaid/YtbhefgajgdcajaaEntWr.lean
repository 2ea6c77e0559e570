/- Writing: numbers, places, moves. -/
import Derived.Test.YtbhefgajgdcajaaSxShort
import Derived.Test.YtbhefgajgdcajaaEntBase
set_option linter.unusedVariables false
set_option linter.unusedSimpArgs false
namespace Go.Proofs.Ytbhefgajgdcajaa
open Sx
attribute [local go_sem] wpC_skip wpC_reg wpC_draw wpC_seq wpC_block wpC_cond wpC_loop wpC_exit wpC_join joinK_n joinK_e joinK_r wpC_ret seqK_n seqK_e seqK_r blockK_n blockK_e blockK_r Fs_nil Fs_none Fs_some stepS_eq Fc_nil Fc_none Fc_some stepC_eq opFn ev cval lk need SV.nm enumR setS setR setRs cellsOf svOf rget spliceC rset src oint eqCells cvs fillC rows ints svDest keyOf2 ridC widens ibool icalc ibin List.replicate List.getD_cons_zero List.getD_cons_succ List.getD_nil List.set_cons_zero List.set_cons_succ List.map_cons List.map_nil List.foldl_cons List.foldl_nil List.length_cons List.length_nil List.drop_zero List.drop_succ_cons List.drop_nil List.take_succ_cons List.take_zero List.take_nil List.cons_append List.nil_append List.append_nil List.headD_cons List.flatten_cons List.flatten_nil Option.map_some Option.map_none Option.getD_none Option.getD_some true_and and_true Nat.zero_add Nat.add_zero appFn svRoom sameO beq_self_eq_true Nat.zero_mul Nat.mul_zero Nat.sub_zero Nat.zero_le Nat.le_refl and_self okB Bool.not_false Bool.true_or Bool.false_or Bool.not_true List.all_nil List.all_cons Int.toNat_zero Int.toNat_one CondC_true CondC_false beq_true beq_false opEn callEn skipEn slotsOf tmpsOf SOp.operands oo free disj List.contains_cons List.contains_nil Option.toList_some Option.toList_none Bool.and_true Bool.true_and Bool.or_false Bool.or_true Bool.and_self Bool.and_false Bool.false_and decide_true decide_false List.range'_succ List.range'_zero Int.toNat_natCast Int.natCast_nonneg Int.cast_ofNat_Int ne_eq not_false_eq_true updGiven updNew getR muOf nuOf owned isRo List.range.loop List.filter SV.ren CV.ren CV.renL SV.renL Res.ren List.length List.idxOf? List.findIdx? List.findIdx?.go slotsW slotW disB List.range
set_option maxRecDepth 100000
theorem shr8 (x : Int) {i : Nat} (hi : i < 4) : IntKind.u8.wrap (x.fdiv (2 ^ min (8 * (i : Int)).toNat IntKind.i64.bits)) = x / 256 ^ i % 256 := by
  rw [u8wrap, show IntKind.i64.bits = 64 from rfl]
  have h : i = 0 ∨ i = 1 ∨ i = 2 ∨ i = 3 := by omega
  have e24 : (2 : Int) ^ 24 = 16777216 := by decide
  have e16 : (2 : Int) ^ 16 = 65536 := by decide
  have e8 : (2 : Int) ^ 8 = 256 := by decide
  rcases h with rfl | rfl | rfl | rfl
  · rw [show min (8 * ((0 : Nat) : Int)).toNat 64 = 0 by decide]; simp
  · rw [show min (8 * ((1 : Nat) : Int)).toNat 64 = 8 by decide, e8, Int.fdiv_eq_ediv_of_nonneg _ (by decide)]; rfl
  · rw [show min (8 * ((2 : Nat) : Int)).toNat 64 = 16 by decide, e16, Int.fdiv_eq_ediv_of_nonneg _ (by decide)]; rfl
  · rw [show min (8 * ((3 : Nat) : Int)).toNat 64 = 24 by decide, e24, Int.fdiv_eq_ediv_of_nonneg _ (by decide)]; rfl

theorem shr8' (x : Int) {i : Nat} (hi : i < 4) : IntKind.u8.wrap (x.fdiv (2 ^ min (8 * (i : Int)).toNat 64)) = x / 256 ^ i % 256 := shr8 x hi
theorem numL_get (n : Nat) (v : Int) (i : Nat) (h : i < n) : (numL n v)[i]? = some (v / 256 ^ (n - 1 - i) % 256) := by
  induction n generalizing i with
  | zero => omega
  | succ n ih =>
    unfold numL
    cases i with
    | zero => rfl
    | succ i => rw [List.getElem?_cons_succ, ih i (by omega), show n + 1 - 1 - (i + 1) = n - 1 - i by omega]
theorem numL_take (n : Nat) (v : Int) (i : Nat) (h : i < n) : (numL n v).take (i + 1) = (numL n v).take i ++ [v / 256 ^ (n - 1 - i) % 256] := by
  rw [List.take_add_one, numL_get n v i h]; rfl
theorem flat_take (n : Nat) (xs : List Int) (a : Nat) (h : a < xs.length) : (xs.take (a + 1)).flatMap (numL n) = (xs.take a).flatMap (numL n) ++ numL n (xs.getD a 0) := by
  rw [List.take_add_one, List.getD_eq_getElem?_getD, List.getElem?_eq_getElem h, Option.toList_some, List.flatMap_append, List.flatMap_cons, List.flatMap_nil, List.append_nil, Option.getD_some]
theorem flat_len (n : Nat) : ∀ xs : List Int, (xs.flatMap (numL n)).length = xs.length * n
  | [] => by simp
  | x :: xs => by rw [List.flatMap_cons, List.length_append, numL_len, flat_len n xs, List.length_cons, Nat.succ_mul, Nat.add_comm]
theorem row_app1 (K : List Int) (x : Int) {j : Nat} (hj : j < K.length + 1) : (if j < K.length then byf (lf K) j else List.take 1 (List.drop ((j - K.length) * 1) [CV.val (.int .u8 x)])) = byf (lf (K ++ [x])) j := by
  simp only [byf, lf_app]
  by_cases h : j < K.length
  · rw [if_pos h, if_pos h]
  · rw [if_neg h, if_neg h, show j - K.length = 0 by omega]; rfl

set_option maxHeartbeats 4000000 in
theorem sp_wNum (n : Nat) (hn : n ≤ 3) (xs : List Int) (hx : xs.length ≤ 100) (L : List Int) (hL : L.length ≤ 1000000) : FSpec Try.prog 53 [.cv (.ptr 0 0 0 0), iV n, .cv (.rsl 1 xs.length none (inC xs))] (wR L)
    (fun v ρ' => v = .tup [] ∧ ρ' = wP (L ++ xs.flatMap (numL n))) := by
  refine FSpec.of follow Try.func53 c53 (Nat.le_of_ble_eq_true rfl) fun hf => ?_
  simp only [sc53, go_sem, reduceIte, reduceCtorEq, Nat.reduceAdd, Nat.reduceMul, Nat.reduceSub, Nat.reduceDiv, Nat.reduceMod, Nat.reduceLeDiff, Nat.reduceEqDiff, Nat.reduceBEq, Nat.reduceBNe, Int.reduceBEq, Int.reduceBNe, Int.reduceAdd, Int.reduceSub, Int.reduceMul, Int.reduceLE, Int.reduceLT, Int.reduceEq, Int.reduceNeg, Int.reduceToNat, Nat.reduceLT]
  refine LoopC.inv follow (fun y : Nat × List Int => ⟨mkSl 36 [(0, .cv (.ptr 0 0 0 0)), (1, iV n), (9, .cv (.rsl 1 xs.length none (inC xs))), (10, iV xs.length), (11, iV y.1)],
      [(0, .cells [.slc 2 1 0 y.2.length none]), (1, .gone), (2, .recs 1 y.2.length (byf (lf y.2)))], 3⟩)
    (fun y => y.1 ≤ xs.length ∧ y.2 = L ++ (xs.take y.1).flatMap (numL n)) (fun y => xs.length - y.1) (0, L) ⟨Nat.zero_le _, (List.append_nil L).symm⟩ (Weak.al [0, 1, 1] ⟨rfl, ?_, rfl, ?_, ?_⟩) ?_
  · intro j hj
    have : j = 0 ∨ j = 1 ∨ j = 2 := by simp at hj; omega
    rcases this with rfl | rfl | rfl
    · exact .inl rfl
    · exact .inr rfl
    · exact .inl rfl
  · repeat' (first | exact trivial | exact rfl | exact Or.inl rfl | exact slotW_ren _ | exact cvW_ren _ | exact cvsW_ren _ | exact Nat.le_refl _ | exact slotW_frz rfl (Nat.le_refl _) | exact slotW_nil (Nat.le_of_ble_eq_true rfl) | exact cvW_frz rfl (Nat.le_refl _) | exact cvW_nil (Nat.le_of_ble_eq_true rfl) | exact Or.inl fun _ _ => rfl | exact fun _ _ => rfl | exact Nat.le_of_ble_eq_true rfl | refine ⟨Or.inl ⟨Nat.le_of_ble_eq_true rfl, ?_⟩, ?_⟩ | refine ⟨Or.inr ⟨Nat.le_of_ble_eq_true rfl, Nat.le_of_ble_eq_true rfl, Nat.le_of_ble_eq_true rfl⟩, ?_⟩ | exact Or.inr ⟨rfl, rfl, rfl, rfl, Nat.le_of_ble_eq_true rfl, Nat.le_of_ble_eq_true rfl, Nat.le_of_ble_eq_true rfl⟩ | refine ⟨?_, ?_⟩)
  · repeat' (first | exact trivial | exact rfl | exact Or.inl rfl | exact slotW_ren _ | exact cvW_ren _ | exact cvsW_ren _ | exact Nat.le_refl _ | exact slotW_frz rfl (Nat.le_refl _) | exact slotW_nil (Nat.le_of_ble_eq_true rfl) | exact cvW_frz rfl (Nat.le_refl _) | exact cvW_nil (Nat.le_of_ble_eq_true rfl) | exact Or.inl fun _ _ => rfl | exact fun _ _ => rfl | exact Nat.le_of_ble_eq_true rfl | refine ⟨Or.inl ⟨Nat.le_of_ble_eq_true rfl, ?_⟩, ?_⟩ | refine ⟨Or.inr ⟨Nat.le_of_ble_eq_true rfl, Nat.le_of_ble_eq_true rfl, Nat.le_of_ble_eq_true rfl⟩, ?_⟩ | exact Or.inr ⟨rfl, rfl, rfl, rfl, Nat.le_of_ble_eq_true rfl, Nat.le_of_ble_eq_true rfl, Nat.le_of_ble_eq_true rfl⟩ | refine ⟨?_, ?_⟩)
  rintro ⟨a, M⟩ ⟨ha, hM⟩
  dsimp only at ha hM
  simp only [mkSl, go_sem, reduceIte, reduceCtorEq, Nat.reduceAdd, Nat.reduceMul, Nat.reduceSub, Nat.reduceDiv, Nat.reduceMod, Nat.reduceLeDiff, Nat.reduceEqDiff, Nat.reduceBEq, Nat.reduceBNe, Int.reduceBEq, Int.reduceBNe, Int.reduceAdd, Int.reduceSub, Int.reduceMul, Int.reduceLE, Int.reduceLT, Int.reduceEq, Int.reduceNeg, Int.reduceToNat, Nat.reduceLT]
  refine CondC.of (fun hc => ?_) (fun hc => ?_)
  · simp only [decide_eq_true_eq] at hc
    have hc' : a < xs.length := by omega
    simp only [go_sem, reduceIte, reduceCtorEq, Nat.reduceAdd, Nat.reduceMul, Nat.reduceSub, Nat.reduceDiv, Nat.reduceMod, Nat.reduceLeDiff, Nat.reduceEqDiff, Nat.reduceBEq, Nat.reduceBNe, Int.reduceBEq, Int.reduceBNe, Int.reduceAdd, Int.reduceSub, Int.reduceMul, Int.reduceLE, Int.reduceLT, Int.reduceEq, Int.reduceNeg, Int.reduceToNat, Nat.reduceLT]
    repeat (refine And.intro (by first | omega | (unfold inI64; omega) | (simp only [u8min, u8max, u16min, u16max, u32min, u32max]; omega)) ?_)
    refine LoopC.inv follow (fun y : Nat × List Int => ⟨mkSl 36 [(0, .cv (.ptr 0 0 0 0)), (1, iV n), (7, iV (xs.getD a 0)), (8, iV ((n : Int) - 1 - y.1)), (9, .cv (.rsl 1 xs.length none (inC xs))), (10, iV xs.length), (11, iV a)],
      [(0, .cells [.slc 2 1 0 y.2.length none]), (1, .gone), (2, .recs 1 y.2.length (byf (lf y.2)))], 3⟩)
      (fun y => y.1 ≤ n ∧ y.2 = M ++ (numL n (xs.getD a 0)).take y.1) (fun y => n - y.1) (0, M) ⟨Nat.zero_le _, (List.append_nil M).symm⟩ (Weak.by [0, 1, 2] 0 ⟨rfl, rfl, rfl, ?_, ?_⟩) ?_
    · simp only [mkSl, Int.ofNat_zero, Int.sub_zero]
      repeat' (first | exact trivial | exact rfl | exact Or.inl rfl | exact slotW_ren _ | exact cvW_ren _ | exact cvsW_ren _ | exact Nat.le_refl _ | exact slotW_frz rfl (Nat.le_refl _) | exact slotW_nil (Nat.le_of_ble_eq_true rfl) | exact cvW_frz rfl (Nat.le_refl _) | exact cvW_nil (Nat.le_of_ble_eq_true rfl) | exact Or.inl fun _ _ => rfl | exact fun _ _ => rfl | exact Nat.le_of_ble_eq_true rfl | refine ⟨Or.inl ⟨Nat.le_of_ble_eq_true rfl, ?_⟩, ?_⟩ | refine ⟨Or.inr ⟨Nat.le_of_ble_eq_true rfl, Nat.le_of_ble_eq_true rfl, Nat.le_of_ble_eq_true rfl⟩, ?_⟩ | exact Or.inr ⟨rfl, rfl, rfl, rfl, Nat.le_of_ble_eq_true rfl, Nat.le_of_ble_eq_true rfl, Nat.le_of_ble_eq_true rfl⟩ | refine ⟨?_, ?_⟩)
    · repeat' (first | exact trivial | exact rfl | exact Or.inl rfl | exact slotW_ren _ | exact cvW_ren _ | exact cvsW_ren _ | exact Nat.le_refl _ | exact slotW_frz rfl (Nat.le_refl _) | exact slotW_nil (Nat.le_of_ble_eq_true rfl) | exact cvW_frz rfl (Nat.le_refl _) | exact cvW_nil (Nat.le_of_ble_eq_true rfl) | exact Or.inl fun _ _ => rfl | exact fun _ _ => rfl | exact Nat.le_of_ble_eq_true rfl | refine ⟨Or.inl ⟨Nat.le_of_ble_eq_true rfl, ?_⟩, ?_⟩ | refine ⟨Or.inr ⟨Nat.le_of_ble_eq_true rfl, Nat.le_of_ble_eq_true rfl, Nat.le_of_ble_eq_true rfl⟩, ?_⟩ | exact Or.inr ⟨rfl, rfl, rfl, rfl, Nat.le_of_ble_eq_true rfl, Nat.le_of_ble_eq_true rfl, Nat.le_of_ble_eq_true rfl⟩ | refine ⟨?_, ?_⟩)
    rintro ⟨i, K⟩ ⟨hi, hK⟩
    dsimp only at hi hK
    simp only [mkSl, go_sem, reduceIte, reduceCtorEq, Nat.reduceAdd, Nat.reduceMul, Nat.reduceSub, Nat.reduceDiv, Nat.reduceMod, Nat.reduceLeDiff, Nat.reduceEqDiff, Nat.reduceBEq, Nat.reduceBNe, Int.reduceBEq, Int.reduceBNe, Int.reduceAdd, Int.reduceSub, Int.reduceMul, Int.reduceLE, Int.reduceLT, Int.reduceEq, Int.reduceNeg, Int.reduceToNat, Nat.reduceLT]
    refine CondC.of (fun hd => ?_) (fun hd => ?_)
    · simp only [decide_eq_true_eq] at hd
      obtain ⟨q, hq, hq4⟩ : ∃ q : Nat, (n : Int) - 1 - i = q ∧ q < 4 := ⟨n - 1 - i, by omega, by omega⟩
      simp only [hq, shr8 _ hq4, shr8' _ hq4, go_sem, reduceIte, reduceCtorEq, Nat.reduceAdd, Nat.reduceMul, Nat.reduceSub, Nat.reduceDiv, Nat.reduceMod, Nat.reduceLeDiff, Nat.reduceEqDiff, Nat.reduceBEq, Nat.reduceBNe, Int.reduceBEq, Int.reduceBNe, Int.reduceAdd, Int.reduceSub, Int.reduceMul, Int.reduceLE, Int.reduceLT, Int.reduceEq, Int.reduceNeg, Int.reduceToNat, Nat.reduceLT]
      repeat (refine And.intro (by first | omega | (unfold inI64; omega) | (simp only [u8min, u8max, u16min, u16max, u32min, u32max]; omega)) ?_)
      obtain ⟨K', hK', hlen⟩ : ∃ K', K ++ [xs.getD a 0 / 256 ^ q % 256] = K' ∧ K'.length = K.length + 1 := ⟨_, rfl, by simp⟩
      have hKl : K.length ≤ 1000306 := by
        have := flat_len n (xs.take a)
        have h2 : (xs.take a).length * n ≤ 100 * 3 := Nat.mul_le_mul (by rw [List.length_take]; omega) hn
        have h3 : ((numL n (xs.getD a 0)).take i).length ≤ 3 := by rw [List.length_take, numL_len]; omega
        rw [hK, hM, List.length_append, List.length_append, this]; omega
      have hst : ∀ j, j < K'.length → (if j < K.length then byf (lf K) j else List.take 1 (List.drop ((j - K.length) * 1) [CV.val (.int .u8 (xs.getD a 0 / 256 ^ q % 256))])) = byf (lf K') j := fun j hj => by
        rw [← hK']; exact row_app1 K _ (by omega)
      have he : K' = M ++ (numL n (xs.getD a 0)).take (i + 1) := by
        rw [← hK', hK, numL_take n _ i (by omega), show n - 1 - i = q by omega, List.append_assoc]
      have hq1 : (q : Int) - 1 = (n : Int) - 1 - ((i + 1 : Nat) : Int) := by omega
      rw [← hlen, hq1]
      refine ⟨by omega, by constructor <;> omega, (i + 1, K'), ⟨by dsimp only; omega, he⟩, by dsimp only; omega, Weak.by [0, 1, 32] 0 ⟨rfl, rfl, rfl, by repeat' (first | exact trivial | exact rfl | exact Or.inl rfl | exact slotW_ren _ | exact cvW_ren _ | exact cvsW_ren _ | exact Nat.le_refl _ | exact slotW_frz rfl (Nat.le_refl _) | exact slotW_nil (Nat.le_of_ble_eq_true rfl) | exact cvW_frz rfl (Nat.le_refl _) | exact cvW_nil (Nat.le_of_ble_eq_true rfl) | exact Or.inl fun _ _ => rfl | exact fun _ _ => rfl | exact Nat.le_of_ble_eq_true rfl | refine ⟨Or.inl ⟨Nat.le_of_ble_eq_true rfl, ?_⟩, ?_⟩ | refine ⟨Or.inr ⟨Nat.le_of_ble_eq_true rfl, Nat.le_of_ble_eq_true rfl, Nat.le_of_ble_eq_true rfl⟩, ?_⟩ | exact Or.inr ⟨rfl, rfl, rfl, rfl, Nat.le_of_ble_eq_true rfl, Nat.le_of_ble_eq_true rfl, Nat.le_of_ble_eq_true rfl⟩ | refine ⟨?_, ?_⟩), ?_⟩⟩
      exact ⟨.inl ⟨Nat.le_of_ble_eq_true rfl, by repeat' (first | exact trivial | exact rfl | exact Or.inl rfl | exact slotW_ren _ | exact cvW_ren _ | exact cvsW_ren _ | exact Nat.le_refl _ | exact slotW_frz rfl (Nat.le_refl _) | exact slotW_nil (Nat.le_of_ble_eq_true rfl) | exact cvW_frz rfl (Nat.le_refl _) | exact cvW_nil (Nat.le_of_ble_eq_true rfl) | exact Or.inl fun _ _ => rfl | exact fun _ _ => rfl | exact Nat.le_of_ble_eq_true rfl | refine ⟨Or.inl ⟨Nat.le_of_ble_eq_true rfl, ?_⟩, ?_⟩ | refine ⟨Or.inr ⟨Nat.le_of_ble_eq_true rfl, Nat.le_of_ble_eq_true rfl, Nat.le_of_ble_eq_true rfl⟩, ?_⟩ | exact Or.inr ⟨rfl, rfl, rfl, rfl, Nat.le_of_ble_eq_true rfl, Nat.le_of_ble_eq_true rfl, Nat.le_of_ble_eq_true rfl⟩ | refine ⟨?_, ?_⟩)⟩, .inl ⟨Nat.le_of_ble_eq_true rfl, trivial⟩, .inl ⟨Nat.le_of_ble_eq_true rfl, rfl, Nat.le_refl _, .inl fun j hj => rb (hst j hj)⟩, trivial⟩
    · simp only [decide_eq_false_iff_not] at hd
      obtain rfl : i = n := by omega
      have he : K = L ++ (xs.take (a + 1)).flatMap (numL i) := by
        rw [hK, List.take_of_length_le (by rw [numL_len]; omega), hM, List.append_assoc, flat_take i xs a hc']
      simp only [go_sem, reduceIte, reduceCtorEq, Nat.reduceAdd, Nat.reduceMul, Nat.reduceSub, Nat.reduceDiv, Nat.reduceMod, Nat.reduceLeDiff, Nat.reduceEqDiff, Nat.reduceBEq, Nat.reduceBNe, Int.reduceBEq, Int.reduceBNe, Int.reduceAdd, Int.reduceSub, Int.reduceMul, Int.reduceLE, Int.reduceLT, Int.reduceEq, Int.reduceNeg, Int.reduceToNat, Nat.reduceLT]
      repeat (refine And.intro (by first | omega | (unfold inI64; omega) | (simp only [u8min, u8max, u16min, u16max, u32min, u32max]; omega)) ?_)
      exact ⟨(a + 1, K), ⟨by dsimp only; omega, he⟩, by dsimp only; omega, Weak.b [0, 1, 2] 0⟩
  · simp only [decide_eq_false_iff_not] at hc
    obtain rfl : a = xs.length := by omega
    rw [List.take_length] at hM
    rw [← hM]
    simp only [go_sem, reduceIte, reduceCtorEq, Nat.reduceAdd, Nat.reduceMul, Nat.reduceSub, Nat.reduceDiv, Nat.reduceMod, Nat.reduceLeDiff, Nat.reduceEqDiff, Nat.reduceBEq, Nat.reduceBNe, Int.reduceBEq, Int.reduceBNe, Int.reduceAdd, Int.reduceSub, Int.reduceMul, Int.reduceLE, Int.reduceLT, Int.reduceEq, Int.reduceNeg, Int.reduceToNat, Nat.reduceLT]
    exact RetC.off [2] ⟨rfl, rfl⟩ ⟨rfl, rfl, by repeat' (first | exact trivial | exact rfl | exact Or.inl rfl | exact slotW_ren _ | exact cvW_ren _ | exact cvsW_ren _ | exact Nat.le_refl _ | exact slotW_frz rfl (Nat.le_refl _) | exact slotW_nil (Nat.le_of_ble_eq_true rfl) | exact cvW_frz rfl (Nat.le_refl _) | exact cvW_nil (Nat.le_of_ble_eq_true rfl) | exact Or.inl fun _ _ => rfl | exact fun _ _ => rfl | exact Nat.le_of_ble_eq_true rfl | refine ⟨Or.inl ⟨Nat.le_of_ble_eq_true rfl, ?_⟩, ?_⟩ | refine ⟨Or.inr ⟨Nat.le_of_ble_eq_true rfl, Nat.le_of_ble_eq_true rfl, Nat.le_of_ble_eq_true rfl⟩, ?_⟩ | exact Or.inr ⟨rfl, rfl, rfl, rfl, Nat.le_of_ble_eq_true rfl, Nat.le_of_ble_eq_true rfl, Nat.le_of_ble_eq_true rfl⟩ | refine ⟨?_, ?_⟩), by repeat' (first | exact trivial | exact rfl | exact Or.inl rfl | exact slotW_ren _ | exact cvW_ren _ | exact cvsW_ren _ | exact Nat.le_refl _ | exact slotW_frz rfl (Nat.le_refl _) | exact slotW_nil (Nat.le_of_ble_eq_true rfl) | exact cvW_frz rfl (Nat.le_refl _) | exact cvW_nil (Nat.le_of_ble_eq_true rfl) | exact Or.inl fun _ _ => rfl | exact fun _ _ => rfl | exact Nat.le_of_ble_eq_true rfl | refine ⟨Or.inl ⟨Nat.le_of_ble_eq_true rfl, ?_⟩, ?_⟩ | refine ⟨Or.inr ⟨Nat.le_of_ble_eq_true rfl, Nat.le_of_ble_eq_true rfl, Nat.le_of_ble_eq_true rfl⟩, ?_⟩ | exact Or.inr ⟨rfl, rfl, rfl, rfl, Nat.le_of_ble_eq_true rfl, Nat.le_of_ble_eq_true rfl, Nat.le_of_ble_eq_true rfl⟩ | refine ⟨?_, ?_⟩), trivial, rfl⟩
set_option maxHeartbeats 4000000 in
theorem sp_wNum0 (n : Nat) (hn : n ≤ 3) (xs : List Int) (hx : xs.length ≤ 100) : FSpec Try.prog 53 [.cv (.ptr 0 0 0 0), iV n, .cv (.rsl 1 xs.length none (inC xs))] [.cells [.val (.slice none 0 0)]]
    (fun v ρ' => v = .tup [] ∧ ρ' = wR (xs.flatMap (numL n))) := by
  refine FSpec.of follow Try.func53 c53 (Nat.le_of_ble_eq_true rfl) fun hf => ?_
  simp only [sc53, go_sem, reduceIte, reduceCtorEq, Nat.reduceAdd, Nat.reduceMul, Nat.reduceSub, Nat.reduceDiv, Nat.reduceMod, Nat.reduceLeDiff, Nat.reduceEqDiff, Nat.reduceBEq, Nat.reduceBNe, Int.reduceBEq, Int.reduceBNe, Int.reduceAdd, Int.reduceSub, Int.reduceMul, Int.reduceLE, Int.reduceLT, Int.reduceEq, Int.reduceNeg, Int.reduceToNat, Nat.reduceLT]
  refine LoopC.inv follow (fun y : Nat × List Int => ⟨mkSl 36 [(0, .cv (.ptr 0 0 0 0)), (1, iV n), (9, .cv (.rsl 1 xs.length none (inC xs))), (10, iV xs.length), (11, iV y.1)],
      [(0, .cells [.slc 1 1 0 y.2.length none]), (1, .recs 1 y.2.length (byf (lf y.2)))], 2⟩)
    (fun y => y.1 ≤ xs.length ∧ y.2 = (xs.take y.1).flatMap (numL n)) (fun y => xs.length - y.1) (0, []) ⟨Nat.zero_le _, rfl⟩ (Weak.b [0] 1) ?_
  rintro ⟨a, M⟩ ⟨ha, hM⟩
  dsimp only at ha hM
  simp only [mkSl, go_sem, reduceIte, reduceCtorEq, Nat.reduceAdd, Nat.reduceMul, Nat.reduceSub, Nat.reduceDiv, Nat.reduceMod, Nat.reduceLeDiff, Nat.reduceEqDiff, Nat.reduceBEq, Nat.reduceBNe, Int.reduceBEq, Int.reduceBNe, Int.reduceAdd, Int.reduceSub, Int.reduceMul, Int.reduceLE, Int.reduceLT, Int.reduceEq, Int.reduceNeg, Int.reduceToNat, Nat.reduceLT]
  refine CondC.of (fun hc => ?_) (fun hc => ?_)
  · simp only [decide_eq_true_eq] at hc
    have hc' : a < xs.length := by omega
    simp only [go_sem, reduceIte, reduceCtorEq, Nat.reduceAdd, Nat.reduceMul, Nat.reduceSub, Nat.reduceDiv, Nat.reduceMod, Nat.reduceLeDiff, Nat.reduceEqDiff, Nat.reduceBEq, Nat.reduceBNe, Int.reduceBEq, Int.reduceBNe, Int.reduceAdd, Int.reduceSub, Int.reduceMul, Int.reduceLE, Int.reduceLT, Int.reduceEq, Int.reduceNeg, Int.reduceToNat, Nat.reduceLT]
    repeat (refine And.intro (by first | omega | (unfold inI64; omega) | (simp only [u8min, u8max, u16min, u16max, u32min, u32max]; omega)) ?_)
    refine LoopC.inv follow (fun y : Nat × List Int => ⟨mkSl 36 [(0, .cv (.ptr 0 0 0 0)), (1, iV n), (7, iV (xs.getD a 0)), (8, iV ((n : Int) - 1 - y.1)), (9, .cv (.rsl 1 xs.length none (inC xs))), (10, iV xs.length), (11, iV a)],
      [(0, .cells [.slc 1 1 0 y.2.length none]), (1, .recs 1 y.2.length (byf (lf y.2)))], 2⟩)
      (fun y => y.1 ≤ n ∧ y.2 = M ++ (numL n (xs.getD a 0)).take y.1) (fun y => n - y.1) (0, M) ⟨Nat.zero_le _, (List.append_nil M).symm⟩ (Weak.by [0, 1] 0 ⟨rfl, rfl, rfl, ?_, ?_⟩) ?_
    · simp only [mkSl, Int.ofNat_zero, Int.sub_zero]
      repeat' (first | exact trivial | exact rfl | exact Or.inl rfl | exact slotW_ren _ | exact cvW_ren _ | exact cvsW_ren _ | exact Nat.le_refl _ | exact slotW_frz rfl (Nat.le_refl _) | exact slotW_nil (Nat.le_of_ble_eq_true rfl) | exact cvW_frz rfl (Nat.le_refl _) | exact cvW_nil (Nat.le_of_ble_eq_true rfl) | exact Or.inl fun _ _ => rfl | exact fun _ _ => rfl | exact Nat.le_of_ble_eq_true rfl | refine ⟨Or.inl ⟨Nat.le_of_ble_eq_true rfl, ?_⟩, ?_⟩ | refine ⟨Or.inr ⟨Nat.le_of_ble_eq_true rfl, Nat.le_of_ble_eq_true rfl, Nat.le_of_ble_eq_true rfl⟩, ?_⟩ | exact Or.inr ⟨rfl, rfl, rfl, rfl, Nat.le_of_ble_eq_true rfl, Nat.le_of_ble_eq_true rfl, Nat.le_of_ble_eq_true rfl⟩ | refine ⟨?_, ?_⟩)
    · repeat' (first | exact trivial | exact rfl | exact Or.inl rfl | exact slotW_ren _ | exact cvW_ren _ | exact cvsW_ren _ | exact Nat.le_refl _ | exact slotW_frz rfl (Nat.le_refl _) | exact slotW_nil (Nat.le_of_ble_eq_true rfl) | exact cvW_frz rfl (Nat.le_refl _) | exact cvW_nil (Nat.le_of_ble_eq_true rfl) | exact Or.inl fun _ _ => rfl | exact fun _ _ => rfl | exact Nat.le_of_ble_eq_true rfl | refine ⟨Or.inl ⟨Nat.le_of_ble_eq_true rfl, ?_⟩, ?_⟩ | refine ⟨Or.inr ⟨Nat.le_of_ble_eq_true rfl, Nat.le_of_ble_eq_true rfl, Nat.le_of_ble_eq_true rfl⟩, ?_⟩ | exact Or.inr ⟨rfl, rfl, rfl, rfl, Nat.le_of_ble_eq_true rfl, Nat.le_of_ble_eq_true rfl, Nat.le_of_ble_eq_true rfl⟩ | refine ⟨?_, ?_⟩)
    rintro ⟨i, K⟩ ⟨hi, hK⟩
    dsimp only at hi hK
    simp only [mkSl, go_sem, reduceIte, reduceCtorEq, Nat.reduceAdd, Nat.reduceMul, Nat.reduceSub, Nat.reduceDiv, Nat.reduceMod, Nat.reduceLeDiff, Nat.reduceEqDiff, Nat.reduceBEq, Nat.reduceBNe, Int.reduceBEq, Int.reduceBNe, Int.reduceAdd, Int.reduceSub, Int.reduceMul, Int.reduceLE, Int.reduceLT, Int.reduceEq, Int.reduceNeg, Int.reduceToNat, Nat.reduceLT]
    refine CondC.of (fun hd => ?_) (fun hd => ?_)
    · simp only [decide_eq_true_eq] at hd
      obtain ⟨q, hq, hq4⟩ : ∃ q : Nat, (n : Int) - 1 - i = q ∧ q < 4 := ⟨n - 1 - i, by omega, by omega⟩
      simp only [hq, shr8 _ hq4, shr8' _ hq4, go_sem, reduceIte, reduceCtorEq, Nat.reduceAdd, Nat.reduceMul, Nat.reduceSub, Nat.reduceDiv, Nat.reduceMod, Nat.reduceLeDiff, Nat.reduceEqDiff, Nat.reduceBEq, Nat.reduceBNe, Int.reduceBEq, Int.reduceBNe, Int.reduceAdd, Int.reduceSub, Int.reduceMul, Int.reduceLE, Int.reduceLT, Int.reduceEq, Int.reduceNeg, Int.reduceToNat, Nat.reduceLT]
      repeat (refine And.intro (by first | omega | (unfold inI64; omega) | (simp only [u8min, u8max, u16min, u16max, u32min, u32max]; omega)) ?_)
      obtain ⟨K', hK', hlen⟩ : ∃ K', K ++ [xs.getD a 0 / 256 ^ q % 256] = K' ∧ K'.length = K.length + 1 := ⟨_, rfl, by simp⟩
      have hKl : K.length ≤ 1000306 := by
        have := flat_len n (xs.take a)
        have h2 : (xs.take a).length * n ≤ 100 * 3 := Nat.mul_le_mul (by rw [List.length_take]; omega) hn
        have h3 : ((numL n (xs.getD a 0)).take i).length ≤ 3 := by rw [List.length_take, numL_len]; omega
        rw [hK, hM, List.length_append, this]; omega
      have hst : ∀ j, j < K'.length → (if j < K.length then byf (lf K) j else List.take 1 (List.drop ((j - K.length) * 1) [CV.val (.int .u8 (xs.getD a 0 / 256 ^ q % 256))])) = byf (lf K') j := fun j hj => by
        rw [← hK']; exact row_app1 K _ (by omega)
      have he : K' = M ++ (numL n (xs.getD a 0)).take (i + 1) := by
        rw [← hK', hK, numL_take n _ i (by omega), show n - 1 - i = q by omega, List.append_assoc]
      have hq1 : (q : Int) - 1 = (n : Int) - 1 - ((i + 1 : Nat) : Int) := by omega
      rw [← hlen, hq1]
      refine ⟨by omega, by constructor <;> omega, (i + 1, K'), ⟨by dsimp only; omega, he⟩, by dsimp only; omega, Weak.by [0, 31] 0 ⟨rfl, rfl, rfl, by repeat' (first | exact trivial | exact rfl | exact Or.inl rfl | exact slotW_ren _ | exact cvW_ren _ | exact cvsW_ren _ | exact Nat.le_refl _ | exact slotW_frz rfl (Nat.le_refl _) | exact slotW_nil (Nat.le_of_ble_eq_true rfl) | exact cvW_frz rfl (Nat.le_refl _) | exact cvW_nil (Nat.le_of_ble_eq_true rfl) | exact Or.inl fun _ _ => rfl | exact fun _ _ => rfl | exact Nat.le_of_ble_eq_true rfl | refine ⟨Or.inl ⟨Nat.le_of_ble_eq_true rfl, ?_⟩, ?_⟩ | refine ⟨Or.inr ⟨Nat.le_of_ble_eq_true rfl, Nat.le_of_ble_eq_true rfl, Nat.le_of_ble_eq_true rfl⟩, ?_⟩ | exact Or.inr ⟨rfl, rfl, rfl, rfl, Nat.le_of_ble_eq_true rfl, Nat.le_of_ble_eq_true rfl, Nat.le_of_ble_eq_true rfl⟩ | refine ⟨?_, ?_⟩), ?_⟩⟩
      exact ⟨.inl ⟨Nat.le_of_ble_eq_true rfl, by repeat' (first | exact trivial | exact rfl | exact Or.inl rfl | exact slotW_ren _ | exact cvW_ren _ | exact cvsW_ren _ | exact Nat.le_refl _ | exact slotW_frz rfl (Nat.le_refl _) | exact slotW_nil (Nat.le_of_ble_eq_true rfl) | exact cvW_frz rfl (Nat.le_refl _) | exact cvW_nil (Nat.le_of_ble_eq_true rfl) | exact Or.inl fun _ _ => rfl | exact fun _ _ => rfl | exact Nat.le_of_ble_eq_true rfl | refine ⟨Or.inl ⟨Nat.le_of_ble_eq_true rfl, ?_⟩, ?_⟩ | refine ⟨Or.inr ⟨Nat.le_of_ble_eq_true rfl, Nat.le_of_ble_eq_true rfl, Nat.le_of_ble_eq_true rfl⟩, ?_⟩ | exact Or.inr ⟨rfl, rfl, rfl, rfl, Nat.le_of_ble_eq_true rfl, Nat.le_of_ble_eq_true rfl, Nat.le_of_ble_eq_true rfl⟩ | refine ⟨?_, ?_⟩)⟩, .inl ⟨Nat.le_of_ble_eq_true rfl, rfl, Nat.le_refl _, .inl fun j hj => rb (hst j hj)⟩, trivial⟩
    · simp only [decide_eq_false_iff_not] at hd
      obtain rfl : i = n := by omega
      have he : K = (xs.take (a + 1)).flatMap (numL i) := by
        rw [hK, List.take_of_length_le (by rw [numL_len]; omega), hM, flat_take i xs a hc']
      simp only [go_sem, reduceIte, reduceCtorEq, Nat.reduceAdd, Nat.reduceMul, Nat.reduceSub, Nat.reduceDiv, Nat.reduceMod, Nat.reduceLeDiff, Nat.reduceEqDiff, Nat.reduceBEq, Nat.reduceBNe, Int.reduceBEq, Int.reduceBNe, Int.reduceAdd, Int.reduceSub, Int.reduceMul, Int.reduceLE, Int.reduceLT, Int.reduceEq, Int.reduceNeg, Int.reduceToNat, Nat.reduceLT]
      repeat (refine And.intro (by first | omega | (unfold inI64; omega) | (simp only [u8min, u8max, u16min, u16max, u32min, u32max]; omega)) ?_)
      exact ⟨(a + 1, K), ⟨by dsimp only; omega, he⟩, by dsimp only; omega, Weak.b [0, 1] 0⟩
  · simp only [decide_eq_false_iff_not] at hc
    obtain rfl : a = xs.length := by omega
    rw [List.take_length] at hM
    rw [← hM]
    simp only [go_sem, reduceIte, reduceCtorEq, Nat.reduceAdd, Nat.reduceMul, Nat.reduceSub, Nat.reduceDiv, Nat.reduceMod, Nat.reduceLeDiff, Nat.reduceEqDiff, Nat.reduceBEq, Nat.reduceBNe, Int.reduceBEq, Int.reduceBNe, Int.reduceAdd, Int.reduceSub, Int.reduceMul, Int.reduceLE, Int.reduceLT, Int.reduceEq, Int.reduceNeg, Int.reduceToNat, Nat.reduceLT]
    exact RetC.off [1] ⟨rfl, rfl⟩ ⟨rfl, rfl, by repeat' (first | exact trivial | exact rfl | exact Or.inl rfl | exact slotW_ren _ | exact cvW_ren _ | exact cvsW_ren _ | exact Nat.le_refl _ | exact slotW_frz rfl (Nat.le_refl _) | exact slotW_nil (Nat.le_of_ble_eq_true rfl) | exact cvW_frz rfl (Nat.le_refl _) | exact cvW_nil (Nat.le_of_ble_eq_true rfl) | exact Or.inl fun _ _ => rfl | exact fun _ _ => rfl | exact Nat.le_of_ble_eq_true rfl | refine ⟨Or.inl ⟨Nat.le_of_ble_eq_true rfl, ?_⟩, ?_⟩ | refine ⟨Or.inr ⟨Nat.le_of_ble_eq_true rfl, Nat.le_of_ble_eq_true rfl, Nat.le_of_ble_eq_true rfl⟩, ?_⟩ | exact Or.inr ⟨rfl, rfl, rfl, rfl, Nat.le_of_ble_eq_true rfl, Nat.le_of_ble_eq_true rfl, Nat.le_of_ble_eq_true rfl⟩ | refine ⟨?_, ?_⟩), by repeat' (first | exact trivial | exact rfl | exact Or.inl rfl | exact slotW_ren _ | exact cvW_ren _ | exact cvsW_ren _ | exact Nat.le_refl _ | exact slotW_frz rfl (Nat.le_refl _) | exact slotW_nil (Nat.le_of_ble_eq_true rfl) | exact cvW_frz rfl (Nat.le_refl _) | exact cvW_nil (Nat.le_of_ble_eq_true rfl) | exact Or.inl fun _ _ => rfl | exact fun _ _ => rfl | exact Nat.le_of_ble_eq_true rfl | refine ⟨Or.inl ⟨Nat.le_of_ble_eq_true rfl, ?_⟩, ?_⟩ | refine ⟨Or.inr ⟨Nat.le_of_ble_eq_true rfl, Nat.le_of_ble_eq_true rfl, Nat.le_of_ble_eq_true rfl⟩, ?_⟩ | exact Or.inr ⟨rfl, rfl, rfl, rfl, Nat.le_of_ble_eq_true rfl, Nat.le_of_ble_eq_true rfl, Nat.le_of_ble_eq_true rfl⟩ | refine ⟨?_, ?_⟩), trivial, rfl⟩
end Go.Proofs.Ytbhefgajgdcajaa

/- Take: the program's. -/
import Derived.Test.YtbhefgajgdcajaaSxShort
import Derived.Test.YtbhefgajgdcajaaEntRd3
set_option linter.unusedVariables false
set_option linter.unusedSimpArgs false
namespace Go.Proofs.Ytbhefgajgdcajaa
open Sx
attribute [local go_sem] wpC_skip wpC_reg wpC_draw wpC_seq wpC_block wpC_cond wpC_loop wpC_exit wpC_join joinK_n joinK_e joinK_r wpC_ret seqK_n seqK_e seqK_r blockK_n blockK_e blockK_r Fs_nil Fs_none Fs_some stepS_eq Fc_nil Fc_none Fc_some stepC_eq opFn ev cval lk need SV.nm enumR setS setR setRs cellsOf svOf rget spliceC rset src oint eqCells cvs fillC rows ints svDest keyOf2 ridC widens ibool icalc ibin List.replicate List.getD_cons_zero List.getD_cons_succ List.getD_nil List.set_cons_zero List.set_cons_succ List.map_cons List.map_nil List.foldl_cons List.foldl_nil List.length_cons List.length_nil List.drop_zero List.drop_succ_cons List.drop_nil List.take_succ_cons List.take_zero List.take_nil List.cons_append List.nil_append List.append_nil List.headD_cons List.flatten_cons List.flatten_nil Option.map_some Option.map_none Option.getD_none Option.getD_some true_and and_true Nat.zero_add Nat.add_zero appFn svRoom sameO beq_self_eq_true Nat.zero_mul Nat.mul_zero Nat.sub_zero Nat.zero_le Nat.le_refl and_self okB Bool.not_false Bool.true_or Bool.false_or Bool.not_true List.all_nil List.all_cons Int.toNat_zero Int.toNat_one CondC_true CondC_false beq_true beq_false opEn callEn skipEn slotsOf tmpsOf SOp.operands oo free disj List.contains_cons List.contains_nil Option.toList_some Option.toList_none Bool.and_true Bool.true_and Bool.or_false Bool.or_true Bool.and_self Bool.and_false Bool.false_and decide_true decide_false List.range'_succ List.range'_zero Int.toNat_natCast Int.natCast_nonneg Int.cast_ofNat_Int ne_eq not_false_eq_true updGiven updNew getR muOf nuOf owned isRo List.range.loop List.filter SV.ren CV.ren CV.renL SV.renL Res.ren List.length List.idxOf? List.findIdx? List.findIdx?.go slotsW slotW disB List.range
set_option maxRecDepth 100000
theorem sp_cloneB (n : Nat) (hn : n ≤ 140737488355328) (f : Nat → Int) : FSpec Try.prog 78 [.cv (.rsl 1 n none (byf f))] [] (fun v ρ' => v = .cv (.rsl 1 n none (byf f)) ∧ ρ' = []) := by
  refine FSpec.of follow Try.func78 c78 (Nat.le_of_ble_eq_true rfl) fun hf => ?_
  simp only [sc78, go_sem, reduceIte, reduceCtorEq, Nat.reduceAdd, Nat.reduceMul, Nat.reduceSub, Nat.reduceDiv, Nat.reduceMod, Nat.reduceLeDiff, Nat.reduceEqDiff, Nat.reduceBEq, Nat.reduceBNe, Int.reduceBEq, Int.reduceBNe, Int.reduceAdd, Int.reduceSub, Int.reduceMul, Int.reduceLE, Int.reduceLT, Int.reduceEq, Int.reduceNeg, Int.reduceToNat, Nat.reduceLT]
  refine ⟨fun h0 => ?_, ?_⟩
  · subst h0
    refine RetC.bk [] ⟨rfl, rfl⟩
  · repeat (refine And.intro (by first | omega | (unfold inI64; omega) | (simp only [u8min, u8max, u16min, u16max, u32min, u32max]; omega)) ?_)
    refine RetC.fz [(29, .frz 1 n (byf f))] [] ⟨rfl, rfl⟩ ⟨⟨rfl, Nat.le_refl _, .inl fun j hj => rb ?_⟩, trivial⟩ ⟨rfl, rfl, ?_, ?_, trivial, rfl⟩
    · simp only [byf]; (repeat' split) <;> first | rfl | (exfalso; omega)
    all_goals repeat' (first | exact trivial | exact rfl | exact Or.inl rfl | exact slotW_ren _ | exact cvW_ren _ | exact cvsW_ren _ | exact Nat.le_refl _ | exact slotW_frz rfl (Nat.le_refl _) | exact slotW_nil (Nat.le_of_ble_eq_true rfl) | exact cvW_frz rfl (Nat.le_refl _) | exact cvW_nil (Nat.le_of_ble_eq_true rfl) | exact Or.inl fun _ _ => rfl | exact fun _ _ => rfl | exact Nat.le_of_ble_eq_true rfl | refine ⟨Or.inl ⟨Nat.le_of_ble_eq_true rfl, ?_⟩, ?_⟩ | refine ⟨Or.inr ⟨Nat.le_of_ble_eq_true rfl, Nat.le_of_ble_eq_true rfl, Nat.le_of_ble_eq_true rfl⟩, ?_⟩ | exact Or.inr ⟨rfl, rfl, rfl, rfl, Nat.le_of_ble_eq_true rfl, Nat.le_of_ble_eq_true rfl, Nat.le_of_ble_eq_true rfl⟩ | refine ⟨?_, ?_⟩)
theorem lf_get {a : List Int} {j : Nat} (h : j < a.length) : lf a j = a[j] := by
  unfold lf; rw [List.getD_eq_getElem?_getD, List.getElem?_eq_getElem h, Option.getD_some]
theorem list_bst {a b : List Int} (ha : byts a) (hb : byts b) : bst a.length (lf a) = bst b.length (lf b) ↔ a = b := ⟨fun h => by
  obtain ⟨h1, h2⟩ := bst_inj (fun j _ => lf_byt ha j) (fun j _ => lf_byt hb j) h
  refine List.ext_getElem h1 fun i h3 h4 => ?_
  have := h2 i h3
  rwa [lf_get h3, lf_get h4] at this, fun h => by rw [h]⟩
theorem sp_beq (a b : List Int) (ha : byts a) (hb : byts b) : FSpec Try.prog 33 [.cv (lbC a), .cv (lbC b)] [] (fun w ρ' => w = bV (decide (a = b)) ∧ ρ' = []) := by
  refine FSpec.of follow Try.func33 c33 (Nat.le_of_ble_eq_true rfl) fun hf => ?_
  simp only [sc33, go_sem, reduceIte, reduceCtorEq, Nat.reduceAdd, Nat.reduceMul, Nat.reduceSub, Nat.reduceDiv, Nat.reduceMod, Nat.reduceLeDiff, Nat.reduceEqDiff, Nat.reduceBEq, Nat.reduceBNe, Int.reduceBEq, Int.reduceBNe, Int.reduceAdd, Int.reduceSub, Int.reduceMul, Int.reduceLE, Int.reduceLT, Int.reduceEq, Int.reduceNeg, Int.reduceToNat, Nat.reduceLT]
  refine ⟨fun j hj => ⟨_, rfl⟩, fun j hj => ⟨_, rfl⟩, ?_⟩
  rw [toList_beq, decide_eq_decide.2 (list_bst ha hb)]
  refine RetC.bk [] ⟨rfl, rfl⟩
theorem sp_rdImage (s : St2) (hb : byts s.1) : FSpec Try.prog 24 [.cv (.ptr 0 0 0 0)] [rS s] (fun v ρ' => v = .cv (lbC (rImg s).1) ∧ ρ' = [rS (rImg s).2]) := by
  have h1 := sp_rdNum 1 (by omega) s hb
  have hfit := fit_rNum (n := 1) (by omega) hb
  obtain ⟨k, hk, hk1⟩ : ∃ k : Nat, (rNum 1 s).1 = k ∧ k ≤ 255 := ⟨(rNum 1 s).1.toNat, (Int.toNat_of_nonneg hfit.1).symm, by have := hfit.2; rw [Int.pow_one] at this; omega⟩
  unfold rImg
  rw [hk] at h1 ⊢
  rw [Int.toNat_natCast]
  have h2 := sp_rdTake k (by omega) (rNum 1 s).2
  have hl := len_rTake k (rNum 1 s).2
  obtain ⟨B, hB⟩ : ∃ B, rTake k (rNum 1 s).2 = B := ⟨_, rfl⟩
  rw [hB] at h2 hl ⊢
  have h3 := sp_cloneB B.1.length (by omega) (lf B.1)
  obtain ⟨A, hA⟩ : ∃ A, (rNum 1 s).2 = A := ⟨_, rfl⟩
  rw [hA] at h1 h2
  refine FSpec.of follow Try.func24 c24 (Nat.le_of_ble_eq_true rfl) fun hf => ?_
  simp only [sc24, go_sem, reduceIte, reduceCtorEq, Nat.reduceAdd, Nat.reduceMul, Nat.reduceSub, Nat.reduceDiv, Nat.reduceMod, Nat.reduceLeDiff, Nat.reduceEqDiff, Nat.reduceBEq, Nat.reduceBNe, Int.reduceBEq, Int.reduceBNe, Int.reduceAdd, Int.reduceSub, Int.reduceMul, Int.reduceLE, Int.reduceLT, Int.reduceEq, Int.reduceNeg, Int.reduceToNat, Nat.reduceLT]
  refine CallC.os h1 [0] ?_
  rintro v ρ' ⟨rfl, rfl⟩
  simp only [go_sem, reduceIte, reduceCtorEq, Nat.reduceAdd, Nat.reduceMul, Nat.reduceSub, Nat.reduceDiv, Nat.reduceMod, Nat.reduceLeDiff, Nat.reduceEqDiff, Nat.reduceBEq, Nat.reduceBNe, Int.reduceBEq, Int.reduceBNe, Int.reduceAdd, Int.reduceSub, Int.reduceMul, Int.reduceLE, Int.reduceLT, Int.reduceEq, Int.reduceNeg, Int.reduceToNat, Nat.reduceLT]
  refine CallC.os h2 [0] ?_
  rintro v ρ' ⟨rfl, rfl⟩
  simp only [go_sem, reduceIte, reduceCtorEq, Nat.reduceAdd, Nat.reduceMul, Nat.reduceSub, Nat.reduceDiv, Nat.reduceMod, Nat.reduceLeDiff, Nat.reduceEqDiff, Nat.reduceBEq, Nat.reduceBNe, Int.reduceBEq, Int.reduceBNe, Int.reduceAdd, Int.reduceSub, Int.reduceMul, Int.reduceLE, Int.reduceLT, Int.reduceEq, Int.reduceNeg, Int.reduceToNat, Nat.reduceLT]
  refine CallC.os h3 [] ?_
  rintro v ρ' ⟨rfl, rfl⟩
  simp only [go_sem, reduceIte, reduceCtorEq, Nat.reduceAdd, Nat.reduceMul, Nat.reduceSub, Nat.reduceDiv, Nat.reduceMod, Nat.reduceLeDiff, Nat.reduceEqDiff, Nat.reduceBEq, Nat.reduceBNe, Int.reduceBEq, Int.reduceBNe, Int.reduceAdd, Int.reduceSub, Int.reduceMul, Int.reduceLE, Int.reduceLT, Int.reduceEq, Int.reduceNeg, Int.reduceToNat, Nat.reduceLT]
  refine RetC.bk [] ⟨rfl, rfl⟩
/-- What an entry has of bytes is bytes. -/
def Ent.Byts (e : Ent) : Prop := byts e.o ∧ byts e.w
theorem byts_flat {α : Type} (w : α → List Int) (hw : ∀ x, byts (w x)) (l : List α) : byts (l.flatMap w) := fun x hx => by
  obtain ⟨a, _, ha⟩ := List.mem_flatMap.1 hx
  exact hw a x ha
theorem byts_wrM (x : Mv) : byts (wrM x) := byts_app (numL_byts _ _) (byts_app (numL_byts _ _) (byts_app (numL_byts _ _) (numL_byts _ _)))
theorem byts_wrL (x : Lv) : byts (wrL x) := byts_app (numL_byts _ _) (byts_app (numL_byts _ _) (byts_app (numL_byts _ _) (numL_byts _ _)))
theorem byts_wrD (x : Dt) : byts (wrD x) := byts_app (numL_byts _ _) (numL_byts _ _)
theorem byts_wrS {α : Type} (w : α → List Int) (hw : ∀ x, byts (w x)) (l : List α) : byts (wrS w l) := byts_app (numL_byts _ _) (byts_flat w hw l)
theorem byts_wrO (x : Op) : byts (wrO x) := byts_app (numL_byts _ _) (byts_app (numL_byts _ _) (byts_wrS _ byts_wrM _))
theorem byts_wrE {e : Ent} (h : e.Byts) : byts (wrE e) :=
  byts_app (numL_byts _ _) (byts_app (numL_byts _ _) (byts_app (numL_byts _ _) (byts_app (numL_byts _ _) (byts_app (numL_byts _ _) (byts_app (numL_byts _ _) (byts_app (numL_byts _ _) (byts_app (numL_byts _ _) (byts_app (numL_byts _ _) (byts_app (numL_byts _ _)
    (byts_app (byts_app (numL_byts _ _) h.1) (byts_app (byts_app (numL_byts _ _) h.2) (byts_app (byts_wrS _ byts_wrM _) (byts_app (byts_wrS _ byts_wrL _) (byts_app (byts_wrS _ byts_wrD _) (byts_wrS _ byts_wrO _)))))))))))))))
theorem byts_putE {e : Ent} (h : e.Byts) : byts (putE e) := by
  unfold putE
  split
  · exact byts_wrE h
  · exact byts_nil
set_option maxHeartbeats 16000000 in
theorem sp_take (b : List Int) (hb : byts b) : FSpec Try.prog 12 [.cv (lbC b)] [] (fun v ρ' => v = .tup [(takeE b).1.V, iV (takeE b).2] ∧ ρ' = []) := by
  have hK := sp_rdNum 1 (by omega) (b, false) hb
  have bK : byts (rNum 1 (b, false)).2.1 := byts_rNum hb
  obtain ⟨K, eK⟩ : ∃ X, rNum 1 (b, false) = X := ⟨_, rfl⟩
  rw [eK] at hK bK
  have hT := sp_rdNum 1 (by omega) K.2 bK
  have bT : byts (rNum 1 K.2).2.1 := byts_rNum bK
  obtain ⟨T, eT⟩ : ∃ X, rNum 1 K.2 = X := ⟨_, rfl⟩
  rw [eT] at hT bT
  have hU := sp_rdNum 2 (by omega) T.2 bT
  have bU : byts (rNum 2 T.2).2.1 := byts_rNum bT
  obtain ⟨U, eU⟩ : ∃ X, rNum 2 T.2 = X := ⟨_, rfl⟩
  rw [eU] at hU bU
  have hH := sp_rdNum 1 (by omega) U.2 bU
  have bH : byts (rNum 1 U.2).2.1 := byts_rNum bU
  obtain ⟨H, eH⟩ : ∃ X, rNum 1 U.2 = X := ⟨_, rfl⟩
  rw [eH] at hH bH
  have hP := sp_rdNum 3 (by omega) H.2 bH
  have bP : byts (rNum 3 H.2).2.1 := byts_rNum bH
  obtain ⟨P, eP⟩ : ∃ X, rNum 3 H.2 = X := ⟨_, rfl⟩
  rw [eP] at hP bP
  have hN := sp_rdNum 3 (by omega) P.2 bP
  have bN : byts (rNum 3 P.2).2.1 := byts_rNum bP
  obtain ⟨N, eN⟩ : ∃ X, rNum 3 P.2 = X := ⟨_, rfl⟩
  rw [eN] at hN bN
  have hA := sp_rdSpot N.2 bN
  have bA : byts (rdR rNum N.2).2.1 := byts_rdR bN
  obtain ⟨A, eA⟩ : ∃ X, rdR rNum N.2 = X := ⟨_, rfl⟩
  rw [eA] at hA bA
  have hC := sp_rdSpot A.2 bA
  have bC : byts (rdR rNum A.2).2.1 := byts_rdR bA
  obtain ⟨C, eC⟩ : ∃ X, rdR rNum A.2 = X := ⟨_, rfl⟩
  rw [eC] at hC bC
  have hO := sp_rdImage C.2 bC
  have bO : byts (rImg C.2).2.1 := byts_rImg bC
  have oO : byts (rImg C.2).1 := (byts_rTake (byts_rNum bC)).1
  obtain ⟨O, eO⟩ : ∃ X, rImg C.2 = X := ⟨_, rfl⟩
  rw [eO] at hO bO oO
  have hW := sp_rdImage O.2 bO
  have bW : byts (rImg O.2).2.1 := byts_rImg bO
  have oW : byts (rImg O.2).1 := (byts_rTake (byts_rNum bO)).1
  obtain ⟨W, eW⟩ : ∃ X, rImg O.2 = X := ⟨_, rfl⟩
  rw [eW] at hW bW oW
  have hM := sp_readsM W.2 bW
  have bM : byts (rList (rdM rNum) W.2).2.1 := byts_rList (fun _ => byts_rdM) bW
  obtain ⟨M, eM⟩ : ∃ X, rList (rdM rNum) W.2 = X := ⟨_, rfl⟩
  rw [eM] at hM bM
  have hL := sp_readsL M.2 bM
  have bL : byts (rList rdL M.2).2.1 := byts_rList (fun _ => byts_rdL) bM
  obtain ⟨L, eL⟩ : ∃ X, rList rdL M.2 = X := ⟨_, rfl⟩
  rw [eL] at hL bL
  have hY := sp_readsD L.2 bL
  have bY : byts (rList (rdD rNum) L.2).2.1 := byts_rList (fun _ => byts_rdD) bL
  obtain ⟨Y, eY⟩ : ∃ X, rList (rdD rNum) L.2 = X := ⟨_, rfl⟩
  rw [eY] at hY bY
  have hQ := sp_readsO Y.2 bY
  have bQ : byts (rList rdO Y.2).2.1 := byts_rList (fun _ => byts_rdO) bY
  obtain ⟨Q, eQ⟩ : ∃ X, rList rdO Y.2 = X := ⟨_, rfl⟩
  rw [eQ] at hQ bQ
  have hE : rdE (b, false) = (⟨K.1, T.1, U.1, H.1, P.1, N.1, A.1.1, A.1.2, C.1.1, C.1.2, O.1, W.1, M.1, L.1, Y.1, Q.1⟩, Q.2) := by
    unfold rdE
    dsimp only
    rw [eK, eT, eU, eH, eP, eN, eA, eC, eO, eW, eM, eL, eY, eQ]
  unfold takeE
  rw [hE]
  clear hE eK eT eU eH eP eN eA eC eO eW eM eL eY eQ
  dsimp only
  have hput := sp_put ⟨K.1, T.1, U.1, H.1, P.1, N.1, A.1.1, A.1.2, C.1.1, C.1.2, O.1, W.1, M.1, L.1, Y.1, Q.1⟩
  have hpb := byts_putE (e := ⟨K.1, T.1, U.1, H.1, P.1, N.1, A.1.1, A.1.2, C.1.1, C.1.2, O.1, W.1, M.1, L.1, Y.1, Q.1⟩) ⟨oO, oW⟩
  obtain ⟨Z, hZ⟩ : ∃ Z, putE ⟨K.1, T.1, U.1, H.1, P.1, N.1, A.1.1, A.1.2, C.1.1, C.1.2, O.1, W.1, M.1, L.1, Y.1, Q.1⟩ = Z := ⟨_, rfl⟩
  rw [hZ] at hput hpb ⊢
  have hbeq := sp_beq Z b hpb hb
  unfold Ent.V Ent.cells at hput
  obtain ⟨QL, QS, QB⟩ := Q
  dsimp only at hQ hput ⊢
  refine FSpec.of follow Try.func12 c12 (Nat.le_of_ble_eq_true rfl) fun hf => ?_
  simp only [sc12, go_sem, reduceIte, reduceCtorEq, Nat.reduceAdd, Nat.reduceMul, Nat.reduceSub, Nat.reduceDiv, Nat.reduceMod, Nat.reduceLeDiff, Nat.reduceEqDiff, Nat.reduceBEq, Nat.reduceBNe, Int.reduceBEq, Int.reduceBNe, Int.reduceAdd, Int.reduceSub, Int.reduceMul, Int.reduceLE, Int.reduceLT, Int.reduceEq, Int.reduceNeg, Int.reduceToNat, Nat.reduceLT]
  refine CallC.os hK [20] ?_
  rintro v ρ' ⟨rfl, rfl⟩
  simp only [go_sem, reduceIte, reduceCtorEq, Nat.reduceAdd, Nat.reduceMul, Nat.reduceSub, Nat.reduceDiv, Nat.reduceMod, Nat.reduceLeDiff, Nat.reduceEqDiff, Nat.reduceBEq, Nat.reduceBNe, Int.reduceBEq, Int.reduceBNe, Int.reduceAdd, Int.reduceSub, Int.reduceMul, Int.reduceLE, Int.reduceLT, Int.reduceEq, Int.reduceNeg, Int.reduceToNat, Nat.reduceLT]
  refine CallC.os hT [20] ?_
  rintro v ρ' ⟨rfl, rfl⟩
  simp only [go_sem, reduceIte, reduceCtorEq, Nat.reduceAdd, Nat.reduceMul, Nat.reduceSub, Nat.reduceDiv, Nat.reduceMod, Nat.reduceLeDiff, Nat.reduceEqDiff, Nat.reduceBEq, Nat.reduceBNe, Int.reduceBEq, Int.reduceBNe, Int.reduceAdd, Int.reduceSub, Int.reduceMul, Int.reduceLE, Int.reduceLT, Int.reduceEq, Int.reduceNeg, Int.reduceToNat, Nat.reduceLT]
  refine CallC.os hU [20] ?_
  rintro v ρ' ⟨rfl, rfl⟩
  simp only [go_sem, reduceIte, reduceCtorEq, Nat.reduceAdd, Nat.reduceMul, Nat.reduceSub, Nat.reduceDiv, Nat.reduceMod, Nat.reduceLeDiff, Nat.reduceEqDiff, Nat.reduceBEq, Nat.reduceBNe, Int.reduceBEq, Int.reduceBNe, Int.reduceAdd, Int.reduceSub, Int.reduceMul, Int.reduceLE, Int.reduceLT, Int.reduceEq, Int.reduceNeg, Int.reduceToNat, Nat.reduceLT]
  refine CallC.os hH [20] ?_
  rintro v ρ' ⟨rfl, rfl⟩
  simp only [go_sem, reduceIte, reduceCtorEq, Nat.reduceAdd, Nat.reduceMul, Nat.reduceSub, Nat.reduceDiv, Nat.reduceMod, Nat.reduceLeDiff, Nat.reduceEqDiff, Nat.reduceBEq, Nat.reduceBNe, Int.reduceBEq, Int.reduceBNe, Int.reduceAdd, Int.reduceSub, Int.reduceMul, Int.reduceLE, Int.reduceLT, Int.reduceEq, Int.reduceNeg, Int.reduceToNat, Nat.reduceLT]
  refine CallC.os hP [20] ?_
  rintro v ρ' ⟨rfl, rfl⟩
  simp only [go_sem, reduceIte, reduceCtorEq, Nat.reduceAdd, Nat.reduceMul, Nat.reduceSub, Nat.reduceDiv, Nat.reduceMod, Nat.reduceLeDiff, Nat.reduceEqDiff, Nat.reduceBEq, Nat.reduceBNe, Int.reduceBEq, Int.reduceBNe, Int.reduceAdd, Int.reduceSub, Int.reduceMul, Int.reduceLE, Int.reduceLT, Int.reduceEq, Int.reduceNeg, Int.reduceToNat, Nat.reduceLT]
  refine CallC.os hN [20] ?_
  rintro v ρ' ⟨rfl, rfl⟩
  simp only [go_sem, reduceIte, reduceCtorEq, Nat.reduceAdd, Nat.reduceMul, Nat.reduceSub, Nat.reduceDiv, Nat.reduceMod, Nat.reduceLeDiff, Nat.reduceEqDiff, Nat.reduceBEq, Nat.reduceBNe, Int.reduceBEq, Int.reduceBNe, Int.reduceAdd, Int.reduceSub, Int.reduceMul, Int.reduceLE, Int.reduceLT, Int.reduceEq, Int.reduceNeg, Int.reduceToNat, Nat.reduceLT]
  refine CallC.os hA [20] ?_
  rintro v ρ' ⟨rfl, rfl⟩
  simp only [go_sem, reduceIte, reduceCtorEq, Nat.reduceAdd, Nat.reduceMul, Nat.reduceSub, Nat.reduceDiv, Nat.reduceMod, Nat.reduceLeDiff, Nat.reduceEqDiff, Nat.reduceBEq, Nat.reduceBNe, Int.reduceBEq, Int.reduceBNe, Int.reduceAdd, Int.reduceSub, Int.reduceMul, Int.reduceLE, Int.reduceLT, Int.reduceEq, Int.reduceNeg, Int.reduceToNat, Nat.reduceLT]
  refine CallC.os hC [20] ?_
  rintro v ρ' ⟨rfl, rfl⟩
  simp only [go_sem, reduceIte, reduceCtorEq, Nat.reduceAdd, Nat.reduceMul, Nat.reduceSub, Nat.reduceDiv, Nat.reduceMod, Nat.reduceLeDiff, Nat.reduceEqDiff, Nat.reduceBEq, Nat.reduceBNe, Int.reduceBEq, Int.reduceBNe, Int.reduceAdd, Int.reduceSub, Int.reduceMul, Int.reduceLE, Int.reduceLT, Int.reduceEq, Int.reduceNeg, Int.reduceToNat, Nat.reduceLT]
  refine CallC.os hO [20] ?_
  rintro v ρ' ⟨rfl, rfl⟩
  simp only [go_sem, reduceIte, reduceCtorEq, Nat.reduceAdd, Nat.reduceMul, Nat.reduceSub, Nat.reduceDiv, Nat.reduceMod, Nat.reduceLeDiff, Nat.reduceEqDiff, Nat.reduceBEq, Nat.reduceBNe, Int.reduceBEq, Int.reduceBNe, Int.reduceAdd, Int.reduceSub, Int.reduceMul, Int.reduceLE, Int.reduceLT, Int.reduceEq, Int.reduceNeg, Int.reduceToNat, Nat.reduceLT]
  refine CallC.os hW [20] ?_
  rintro v ρ' ⟨rfl, rfl⟩
  simp only [go_sem, reduceIte, reduceCtorEq, Nat.reduceAdd, Nat.reduceMul, Nat.reduceSub, Nat.reduceDiv, Nat.reduceMod, Nat.reduceLeDiff, Nat.reduceEqDiff, Nat.reduceBEq, Nat.reduceBNe, Int.reduceBEq, Int.reduceBNe, Int.reduceAdd, Int.reduceSub, Int.reduceMul, Int.reduceLE, Int.reduceLT, Int.reduceEq, Int.reduceNeg, Int.reduceToNat, Nat.reduceLT]
  refine CallC.os hM [20] ?_
  rintro v ρ' ⟨rfl, rfl⟩
  simp only [go_sem, reduceIte, reduceCtorEq, Nat.reduceAdd, Nat.reduceMul, Nat.reduceSub, Nat.reduceDiv, Nat.reduceMod, Nat.reduceLeDiff, Nat.reduceEqDiff, Nat.reduceBEq, Nat.reduceBNe, Int.reduceBEq, Int.reduceBNe, Int.reduceAdd, Int.reduceSub, Int.reduceMul, Int.reduceLE, Int.reduceLT, Int.reduceEq, Int.reduceNeg, Int.reduceToNat, Nat.reduceLT]
  refine CallC.os hL [20] ?_
  rintro v ρ' ⟨rfl, rfl⟩
  simp only [go_sem, reduceIte, reduceCtorEq, Nat.reduceAdd, Nat.reduceMul, Nat.reduceSub, Nat.reduceDiv, Nat.reduceMod, Nat.reduceLeDiff, Nat.reduceEqDiff, Nat.reduceBEq, Nat.reduceBNe, Int.reduceBEq, Int.reduceBNe, Int.reduceAdd, Int.reduceSub, Int.reduceMul, Int.reduceLE, Int.reduceLT, Int.reduceEq, Int.reduceNeg, Int.reduceToNat, Nat.reduceLT]
  refine CallC.os hY [20] ?_
  rintro v ρ' ⟨rfl, rfl⟩
  simp only [go_sem, reduceIte, reduceCtorEq, Nat.reduceAdd, Nat.reduceMul, Nat.reduceSub, Nat.reduceDiv, Nat.reduceMod, Nat.reduceLeDiff, Nat.reduceEqDiff, Nat.reduceBEq, Nat.reduceBNe, Int.reduceBEq, Int.reduceBNe, Int.reduceAdd, Int.reduceSub, Int.reduceMul, Int.reduceLE, Int.reduceLT, Int.reduceEq, Int.reduceNeg, Int.reduceToNat, Nat.reduceLT]
  refine CallC.os hQ [20] ?_
  rintro v ρ' ⟨rfl, rfl⟩
  simp only [go_sem, reduceIte, reduceCtorEq, Nat.reduceAdd, Nat.reduceMul, Nat.reduceSub, Nat.reduceDiv, Nat.reduceMod, Nat.reduceLeDiff, Nat.reduceEqDiff, Nat.reduceBEq, Nat.reduceBNe, Int.reduceBEq, Int.reduceBNe, Int.reduceAdd, Int.reduceSub, Int.reduceMul, Int.reduceLE, Int.reduceLT, Int.reduceEq, Int.reduceNeg, Int.reduceToNat, Nat.reduceLT]
  cases QB
  case true =>
    rw [if_pos (.inl rfl)]
    simp only [zeroE, Ent.cells, go_sem, reduceIte, reduceCtorEq, Nat.reduceAdd, Nat.reduceMul, Nat.reduceSub, Nat.reduceDiv, Nat.reduceMod, Nat.reduceLeDiff, Nat.reduceEqDiff, Nat.reduceBEq, Nat.reduceBNe, Int.reduceBEq, Int.reduceBNe, Int.reduceAdd, Int.reduceSub, Int.reduceMul, Int.reduceLE, Int.reduceLT, Int.reduceEq, Int.reduceNeg, Int.reduceToNat, Nat.reduceLT]
    refine RetC.bk [] ⟨rfl, rfl⟩
  simp only [go_sem, reduceIte, reduceCtorEq, Nat.reduceAdd, Nat.reduceMul, Nat.reduceSub, Nat.reduceDiv, Nat.reduceMod, Nat.reduceLeDiff, Nat.reduceEqDiff, Nat.reduceBEq, Nat.reduceBNe, Int.reduceBEq, Int.reduceBNe, Int.reduceAdd, Int.reduceSub, Int.reduceMul, Int.reduceLE, Int.reduceLT, Int.reduceEq, Int.reduceNeg, Int.reduceToNat, Nat.reduceLT]
  refine CallC.os hput [] ?_
  rintro v ρ' ⟨rfl, rfl⟩
  simp only [go_sem, reduceIte, reduceCtorEq, Nat.reduceAdd, Nat.reduceMul, Nat.reduceSub, Nat.reduceDiv, Nat.reduceMod, Nat.reduceLeDiff, Nat.reduceEqDiff, Nat.reduceBEq, Nat.reduceBNe, Int.reduceBEq, Int.reduceBNe, Int.reduceAdd, Int.reduceSub, Int.reduceMul, Int.reduceLE, Int.reduceLT, Int.reduceEq, Int.reduceNeg, Int.reduceToNat, Nat.reduceLT]
  by_cases hz : Z = b
  case neg =>
    rw [decide_eq_false hz] at hbeq
    rw [if_pos (.inr (.inl hz))]
    refine CallC.os hbeq [] ?_
    rintro v ρ' ⟨rfl, rfl⟩
    simp only [zeroE, Ent.cells, go_sem, reduceIte, reduceCtorEq, Nat.reduceAdd, Nat.reduceMul, Nat.reduceSub, Nat.reduceDiv, Nat.reduceMod, Nat.reduceLeDiff, Nat.reduceEqDiff, Nat.reduceBEq, Nat.reduceBNe, Int.reduceBEq, Int.reduceBNe, Int.reduceAdd, Int.reduceSub, Int.reduceMul, Int.reduceLE, Int.reduceLT, Int.reduceEq, Int.reduceNeg, Int.reduceToNat, Nat.reduceLT]
    refine RetC.bk [] ⟨rfl, rfl⟩
  rw [decide_eq_true hz] at hbeq
  refine CallC.os hbeq [] ?_
  rintro v ρ' ⟨rfl, rfl⟩
  by_cases hn : b = []
  · have e0 : ((b.length : Int) == 0) = true := by rw [hn]; rfl
    rw [if_pos (.inr (.inr hn))]
    simp only [e0, zeroE, Ent.cells, go_sem, reduceIte, reduceCtorEq, Nat.reduceAdd, Nat.reduceMul, Nat.reduceSub, Nat.reduceDiv, Nat.reduceMod, Nat.reduceLeDiff, Nat.reduceEqDiff, Nat.reduceBEq, Nat.reduceBNe, Int.reduceBEq, Int.reduceBNe, Int.reduceAdd, Int.reduceSub, Int.reduceMul, Int.reduceLE, Int.reduceLT, Int.reduceEq, Int.reduceNeg, Int.reduceToNat, Nat.reduceLT]
    refine RetC.bk [] ⟨rfl, rfl⟩
  · have e0 : ((b.length : Int) == 0) = false := by
      have : b.length ≠ 0 := fun h => hn (List.length_eq_zero_iff.1 h)
      simp; omega
    rw [if_neg (fun h => h.elim (by decide) fun h => h.elim (fun h => h hz) hn)]
    simp only [e0, Ent.cells, go_sem, reduceIte, reduceCtorEq, Nat.reduceAdd, Nat.reduceMul, Nat.reduceSub, Nat.reduceDiv, Nat.reduceMod, Nat.reduceLeDiff, Nat.reduceEqDiff, Nat.reduceBEq, Nat.reduceBNe, Int.reduceBEq, Int.reduceBNe, Int.reduceAdd, Int.reduceSub, Int.reduceMul, Int.reduceLE, Int.reduceLT, Int.reduceEq, Int.reduceNeg, Int.reduceToNat, Nat.reduceLT]
    refine RetC.bk [] ⟨rfl, rfl⟩
end Go.Proofs.Ytbhefgajgdcajaa

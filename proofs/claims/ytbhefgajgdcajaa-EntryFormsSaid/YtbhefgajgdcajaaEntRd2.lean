import Derived.Test.YtbhefgajgdcajaaSxShort
import Derived.Test.YtbhefgajgdcajaaEntPut
set_option linter.unusedVariables false
set_option linter.unusedSimpArgs false
/- Reading: bytes, numbers. -/
namespace Go.Proofs.Ytbhefgajgdcajaa
open Sx
attribute [local go_sem] wpC_skip wpC_reg wpC_draw wpC_seq wpC_block wpC_cond wpC_loop wpC_exit wpC_join joinK_n joinK_e joinK_r wpC_ret seqK_n seqK_e seqK_r blockK_n blockK_e blockK_r Fs_nil Fs_none Fs_some stepS_eq Fc_nil Fc_none Fc_some stepC_eq opFn ev cval lk need SV.nm enumR setS setR setRs cellsOf svOf rget spliceC rset src oint eqCells cvs fillC rows ints svDest keyOf2 ridC widens ibool icalc ibin List.replicate List.getD_cons_zero List.getD_cons_succ List.getD_nil List.set_cons_zero List.set_cons_succ List.map_cons List.map_nil List.foldl_cons List.foldl_nil List.length_cons List.length_nil List.drop_zero List.drop_succ_cons List.drop_nil List.take_succ_cons List.take_zero List.take_nil List.cons_append List.nil_append List.append_nil List.headD_cons List.flatten_cons List.flatten_nil Option.map_some Option.map_none Option.getD_none Option.getD_some true_and and_true Nat.zero_add Nat.add_zero appFn svRoom sameO beq_self_eq_true Nat.zero_mul Nat.mul_zero Nat.sub_zero Nat.zero_le Nat.le_refl and_self okB Bool.not_false Bool.true_or Bool.false_or Bool.not_true List.all_nil List.all_cons Int.toNat_zero Int.toNat_one CondC_true CondC_false beq_true beq_false opEn callEn skipEn slotsOf tmpsOf SOp.operands oo free disj List.contains_cons List.contains_nil Option.toList_some Option.toList_none Bool.and_true Bool.true_and Bool.or_false Bool.or_true Bool.and_self Bool.and_false Bool.false_and decide_true decide_false List.range'_succ List.range'_zero Int.toNat_natCast Int.natCast_nonneg Int.cast_ofNat_Int ne_eq not_false_eq_true updGiven updNew getR muOf nuOf owned isRo List.range.loop List.filter SV.ren CV.ren CV.renL SV.renL Res.ren List.length List.idxOf? List.findIdx? List.findIdx?.go slotsW slotW disB List.range
set_option maxRecDepth 100000
/-- A reader: what is left, and whether there was too little. -/
abbrev rS (s : St2) : Res := .cells [lbC s.1, bC s.2]
theorem byts_rTake {n : Nat} {s : St2} (h : byts s.1) : byts (rTake n s).1 ∧ byts (rTake n s).2.1 := by
  unfold rTake
  split
  · exact ⟨byts_zeros n, byts_nil⟩
  · exact ⟨byts_take h n, byts_drop h n⟩
theorem len_rTake (n : Nat) (s : St2) : (rTake n s).1.length = n := by
  unfold rTake
  split
  · simp [zeros]
  · rw [List.length_take]; omega
theorem byts_rNum {n : Nat} {s : St2} (h : byts s.1) : byts (rNum n s).2.1 := (byts_rTake h).2
theorem fit_rNum {n : Nat} (hn : n ≤ 3) {s : St2} (h : byts s.1) : fit n (rNum n s).1 := by
  have h1 := fit_val (byts_rTake (n := n) h).1 (by rw [len_rTake]; exact hn)
  rw [len_rTake] at h1
  exact h1.1
theorem lf_zeros (n j : Nat) : lf (zeros n) j = 0 := by
  unfold lf zeros
  rw [List.getD_eq_getElem?_getD, List.getElem?_replicate]
  split <;> rfl
theorem lbC_drop (L : List Int) (n : Nat) : lbC (L.drop n) = .rsl 1 (L.length - n) none (byf fun j => lf L (n + j)) := by
  unfold lbC
  rw [List.length_drop]
  congr 1
  funext j
  simp only [byf, lf_drop]

theorem lbC_zeros (n : Nat) : lbC (zeros n) = .rsl 1 n none (byf fun _ => 0) := by
  have e : (zeros n).length = n := by simp [zeros]
  unfold lbC
  rw [e]
  congr 1
  funext j
  simp only [byf, lf_zeros]
theorem lbC_take {L : List Int} {n : Nat} (h : n ≤ L.length) : lbC (L.take n) = .rsl 1 n none (byf (lf (L.take n))) := by
  have e : (L.take n).length = n := by rw [List.length_take]; omega
  unfold lbC
  rw [e]
theorem rows_by {rs : List (Nat × Res)} {ν : Nat → Option Nat} {lo hi n : Nat} {f g : Nat → Int} (h : ∀ i, i < n → f i = g i) : slotW rs ν lo hi (.cv (.rsl 1 n none (byf f))) (.cv (.rsl 1 n none (byf g))) :=
  .inr ⟨rfl, rfl, .inl rfl, fun i hi => by simp only [byf, h i hi]; exact ⟨rfl, trivial⟩⟩

set_option maxHeartbeats 4000000 in
theorem sp_rdTake (n : Nat) (hn : n ≤ 1000) (s : St2) : FSpec Try.prog 77 [.cv (.ptr 0 0 0 0), iV n] [rS s] (fun v ρ' => v = .cv (lbC (rTake n s).1) ∧ ρ' = [rS (rTake n s).2]) := by
  obtain ⟨L, b⟩ := s
  refine FSpec.of follow Try.func77 c77 (Nat.le_of_ble_eq_true rfl) fun hf => ?_
  unfold rTake
  dsimp only
  by_cases h : L.length < n
  · have e1 : decide ((L.length : Int) < n) = true := decide_eq_true (by omega)
    rw [if_pos h, lbC_zeros]
    simp only [sc77, e1, go_sem, reduceIte, reduceCtorEq, Nat.reduceAdd, Nat.reduceMul, Nat.reduceSub, Nat.reduceDiv, Nat.reduceMod, Nat.reduceLeDiff, Nat.reduceEqDiff, Nat.reduceBEq, Nat.reduceBNe, Int.reduceBEq, Int.reduceBNe, Int.reduceAdd, Int.reduceSub, Int.reduceMul, Int.reduceLE, Int.reduceLT, Int.reduceEq, Int.reduceNeg, Int.reduceToNat, Nat.reduceLT]
    repeat (refine And.intro (by first | omega | (unfold inI64; omega) | (simp only [u8min, u8max, u16min, u16max, u32min, u32max]; omega)) ?_)
    refine RetC.fz [(146, .frz 1 n (byf fun _ => 0))] [] ⟨rfl, rfl⟩ ⟨⟨rfl, Nat.le_refl _, .inl fun j hj => rfl⟩, trivial⟩ ⟨rfl, rfl, ?_, ?_, trivial, rfl⟩ <;> repeat' (first | exact trivial | exact rfl | exact Or.inl rfl | exact slotW_ren _ | exact cvW_ren _ | exact cvsW_ren _ | exact Nat.le_refl _ | exact slotW_frz rfl (Nat.le_refl _) | exact slotW_nil (Nat.le_of_ble_eq_true rfl) | exact cvW_frz rfl (Nat.le_refl _) | exact cvW_nil (Nat.le_of_ble_eq_true rfl) | exact Or.inl fun _ _ => rfl | exact fun _ _ => rfl | exact Nat.le_of_ble_eq_true rfl | refine ⟨Or.inl ⟨Nat.le_of_ble_eq_true rfl, ?_⟩, ?_⟩ | refine ⟨Or.inr ⟨Nat.le_of_ble_eq_true rfl, Nat.le_of_ble_eq_true rfl, Nat.le_of_ble_eq_true rfl⟩, ?_⟩ | exact Or.inr ⟨rfl, rfl, rfl, rfl, Nat.le_of_ble_eq_true rfl, Nat.le_of_ble_eq_true rfl, Nat.le_of_ble_eq_true rfl⟩ | refine ⟨?_, ?_⟩)
  · have e1 : decide ((L.length : Int) < n) = false := decide_eq_false (by omega)
    rw [if_neg h]
    dsimp only [rS]
    rw [lbC_take (by omega), lbC_drop]
    simp only [sc77, e1, go_sem, reduceIte, reduceCtorEq, Nat.reduceAdd, Nat.reduceMul, Nat.reduceSub, Nat.reduceDiv, Nat.reduceMod, Nat.reduceLeDiff, Nat.reduceEqDiff, Nat.reduceBEq, Nat.reduceBNe, Int.reduceBEq, Int.reduceBNe, Int.reduceAdd, Int.reduceSub, Int.reduceMul, Int.reduceLE, Int.reduceLT, Int.reduceEq, Int.reduceNeg, Int.reduceToNat, Nat.reduceLT]
    repeat (refine And.intro (by first | omega | (unfold inI64; omega) | (simp only [u8min, u8max, u16min, u16max, u32min, u32max]; omega)) ?_)
    refine RetC.back [] ⟨rfl, rfl⟩ ⟨rfl, rfl, ⟨⟨trivial, trivial⟩, ?_⟩, by repeat' (first | exact trivial | exact rfl | exact Or.inl rfl | exact slotW_ren _ | exact cvW_ren _ | exact cvsW_ren _ | exact Nat.le_refl _ | exact slotW_frz rfl (Nat.le_refl _) | exact slotW_nil (Nat.le_of_ble_eq_true rfl) | exact cvW_frz rfl (Nat.le_refl _) | exact cvW_nil (Nat.le_of_ble_eq_true rfl) | exact Or.inl fun _ _ => rfl | exact fun _ _ => rfl | exact Nat.le_of_ble_eq_true rfl | refine ⟨Or.inl ⟨Nat.le_of_ble_eq_true rfl, ?_⟩, ?_⟩ | refine ⟨Or.inr ⟨Nat.le_of_ble_eq_true rfl, Nat.le_of_ble_eq_true rfl, Nat.le_of_ble_eq_true rfl⟩, ?_⟩ | exact Or.inr ⟨rfl, rfl, rfl, rfl, Nat.le_of_ble_eq_true rfl, Nat.le_of_ble_eq_true rfl, Nat.le_of_ble_eq_true rfl⟩ | refine ⟨?_, ?_⟩), trivial, rfl⟩
    exact rows_by fun i hi => lf_take L n i hi

theorem or_byteI {a b : Int} (ha : 0 ≤ a) (ha' : a < 65536) (hb : 0 ≤ b) (hb' : b ≤ 255) : ibits .or .i64 (a * 2 ^ min 8 IntKind.i64.bits) b = a * 256 + b := by
  have e : (2 : Int) ^ min 8 IntKind.i64.bits = 256 := by decide
  rw [e]
  rw [ibits_or (by omega) (by show _ < (2 : Int) ^ 64; omega) hb (by show _ < (2 : Int) ^ 64; omega)]
  have h1 : (a * 256).toNat = a.toNat * 2 ^ 8 := by omega
  have h2 : b.toNat < 2 ^ 8 := by omega
  rw [h1, or_low _ h2]
  have h3 : ((a.toNat * 2 ^ 8 + b.toNat : Nat) : Int) = a * 256 + b := by omega
  rw [h3]
  exact i64wrap (by omega) (by omega)
theorem or_byteI' {a b : Int} (ha : 0 ≤ a) (ha' : a < 65536) (hb : 0 ≤ b) (hb' : b ≤ 255) : ibits .or .i64 (a * 2 ^ min 8 64) b = a * 256 + b := or_byteI ha ha' hb hb'
theorem or_byteI2 {a b : Int} (ha : 0 ≤ a) (ha' : a < 65536) (hb : 0 ≤ b) (hb' : b ≤ 255) : ibits .or .i64 (a * 2 ^ 8) b = a * 256 + b := or_byteI ha ha' hb hb'
theorem val_step (T : List Int) (i : Nat) (h : i < T.length) : valL (T.take (i + 1)) = valL (T.take i) * 256 + lf T i := by
  unfold valL lf
  rw [List.take_add_one, List.getElem?_eq_getElem h, Option.toList_some, List.foldl_append, List.foldl_cons, List.foldl_nil, List.getD_eq_getElem?_getD, List.getElem?_eq_getElem h, Option.getD_some]
set_option maxHeartbeats 4000000 in
theorem sp_rdNum (n : Nat) (hn : n ≤ 3) (s : St2) (hb : byts s.1) : FSpec Try.prog 22 [.cv (.ptr 0 0 0 0), iV n] [rS s] (fun v ρ' => v = iV (rNum n s).1 ∧ ρ' = [rS (rNum n s).2]) := by
  have hs := sp_rdTake n (by omega) s
  have hT := (byts_rTake (n := n) hb).1
  have hl := len_rTake n s
  unfold rNum
  obtain ⟨R, hR⟩ : ∃ R, rTake n s = R := ⟨_, rfl⟩
  rw [hR] at hs hT hl ⊢
  obtain ⟨T, u⟩ := R
  dsimp only at hs hT hl ⊢
  refine FSpec.of follow Try.func22 c22 (Nat.le_of_ble_eq_true rfl) fun hf => ?_
  simp only [sc22, go_sem, reduceIte, reduceCtorEq, Nat.reduceAdd, Nat.reduceMul, Nat.reduceSub, Nat.reduceDiv, Nat.reduceMod, Nat.reduceLeDiff, Nat.reduceEqDiff, Nat.reduceBEq, Nat.reduceBNe, Int.reduceBEq, Int.reduceBNe, Int.reduceAdd, Int.reduceSub, Int.reduceMul, Int.reduceLE, Int.reduceLT, Int.reduceEq, Int.reduceNeg, Int.reduceToNat, Nat.reduceLT]
  refine CallC.os hs [0] ?_
  rintro v ρ' ⟨rfl, rfl⟩
  simp only [go_sem, reduceIte, reduceCtorEq, Nat.reduceAdd, Nat.reduceMul, Nat.reduceSub, Nat.reduceDiv, Nat.reduceMod, Nat.reduceLeDiff, Nat.reduceEqDiff, Nat.reduceBEq, Nat.reduceBNe, Int.reduceBEq, Int.reduceBNe, Int.reduceAdd, Int.reduceSub, Int.reduceMul, Int.reduceLE, Int.reduceLT, Int.reduceEq, Int.reduceNeg, Int.reduceToNat, Nat.reduceLT]
  refine LoopC.inv follow (fun i : Nat => ⟨mkSl 23 [(5, iV (valL (T.take i))), (10, .cv (lbC T)), (11, iV T.length), (12, iV i)], [(0, rS u)], 1⟩)
    (fun i => i ≤ T.length) (fun i => T.length - i) 0 (Nat.zero_le _) (Weak.b [0] 0) ?_
  rintro i hi
  simp only [mkSl, go_sem, reduceIte, reduceCtorEq, Nat.reduceAdd, Nat.reduceMul, Nat.reduceSub, Nat.reduceDiv, Nat.reduceMod, Nat.reduceLeDiff, Nat.reduceEqDiff, Nat.reduceBEq, Nat.reduceBNe, Int.reduceBEq, Int.reduceBNe, Int.reduceAdd, Int.reduceSub, Int.reduceMul, Int.reduceLE, Int.reduceLT, Int.reduceEq, Int.reduceNeg, Int.reduceToNat, Nat.reduceLT]
  refine CondC.of (fun hc => ?_) (fun hc => ?_)
  · simp only [decide_eq_true_eq] at hc
    have hc' : i < T.length := by omega
    have h8 := lf_byt hT i
    have hv := fit_val (byts_take hT i) (by rw [List.length_take]; omega)
    have hv1 := hv.1.1
    have hv2 : valL (T.take i) < 65536 := by
      have h1 := hv.1.2
      rw [List.length_take, show min i T.length = i by omega] at h1
      have h2 : (256 : Int) ^ i ≤ 65536 := by
        have : i = 0 ∨ i = 1 ∨ i = 2 := by omega
        rcases this with rfl | rfl | rfl <;> decide
      omega
    simp only [go_sem, reduceIte, reduceCtorEq, Nat.reduceAdd, Nat.reduceMul, Nat.reduceSub, Nat.reduceDiv, Nat.reduceMod, Nat.reduceLeDiff, Nat.reduceEqDiff, Nat.reduceBEq, Nat.reduceBNe, Int.reduceBEq, Int.reduceBNe, Int.reduceAdd, Int.reduceSub, Int.reduceMul, Int.reduceLE, Int.reduceLT, Int.reduceEq, Int.reduceNeg, Int.reduceToNat, Nat.reduceLT, or_byteI hv1 hv2 h8.1 h8.2, or_byteI' hv1 hv2 h8.1 h8.2, or_byteI2 hv1 hv2 h8.1 h8.2, ← val_step T i hc']
    repeat (refine And.intro (by first | omega | (unfold inI64; omega) | (simp only [u8min, u8max, u16min, u16max, u32min, u32max]; omega)) ?_)
    have e8 : (2 : Int) ^ min 8 IntKind.i64.bits = 256 := by decide
    have e8a : (2 : Int) ^ min 8 64 = 256 := by decide
    have e8b : (2 : Int) ^ 8 = 256 := by decide
    refine ⟨by first | rw [e8] | rw [e8a] | rw [e8b]
               exact ⟨by omega, by omega⟩, ⟨by rw [u8min]; exact h8.1, by rw [u8max]; exact h8.2⟩, ⟨by omega, by omega⟩, i + 1, by omega, by omega, Weak.b [0] 0⟩
  · simp only [decide_eq_false_iff_not] at hc
    obtain rfl : i = T.length := by omega
    simp only [List.take_length, go_sem, reduceIte, reduceCtorEq, Nat.reduceAdd, Nat.reduceMul, Nat.reduceSub, Nat.reduceDiv, Nat.reduceMod, Nat.reduceLeDiff, Nat.reduceEqDiff, Nat.reduceBEq, Nat.reduceBNe, Int.reduceBEq, Int.reduceBNe, Int.reduceAdd, Int.reduceSub, Int.reduceMul, Int.reduceLE, Int.reduceLT, Int.reduceEq, Int.reduceNeg, Int.reduceToNat, Nat.reduceLT]
    refine RetC.bk [] ⟨rfl, rfl⟩
end Go.Proofs.Ytbhefgajgdcajaa

/- Reading: places, moves, rows. -/
namespace Go.Proofs.Ytbhefgajgdcajaa
open Sx
attribute [local go_sem] wpC_skip wpC_reg wpC_draw wpC_seq wpC_block wpC_cond wpC_loop wpC_exit wpC_join joinK_n joinK_e joinK_r wpC_ret seqK_n seqK_e seqK_r blockK_n blockK_e blockK_r Fs_nil Fs_none Fs_some stepS_eq Fc_nil Fc_none Fc_some stepC_eq opFn ev cval lk need SV.nm enumR setS setR setRs cellsOf svOf rget spliceC rset src oint eqCells cvs fillC rows ints svDest keyOf2 ridC widens ibool icalc ibin List.replicate List.getD_cons_zero List.getD_cons_succ List.getD_nil List.set_cons_zero List.set_cons_succ List.map_cons List.map_nil List.foldl_cons List.foldl_nil List.length_cons List.length_nil List.drop_zero List.drop_succ_cons List.drop_nil List.take_succ_cons List.take_zero List.take_nil List.cons_append List.nil_append List.append_nil List.headD_cons List.flatten_cons List.flatten_nil Option.map_some Option.map_none Option.getD_none Option.getD_some true_and and_true Nat.zero_add Nat.add_zero appFn svRoom sameO beq_self_eq_true Nat.zero_mul Nat.mul_zero Nat.sub_zero Nat.zero_le Nat.le_refl and_self okB Bool.not_false Bool.true_or Bool.false_or Bool.not_true List.all_nil List.all_cons Int.toNat_zero Int.toNat_one CondC_true CondC_false beq_true beq_false opEn callEn skipEn slotsOf tmpsOf SOp.operands oo free disj List.contains_cons List.contains_nil Option.toList_some Option.toList_none Bool.and_true Bool.true_and Bool.or_false Bool.or_true Bool.and_self Bool.and_false Bool.false_and decide_true decide_false List.range'_succ List.range'_zero Int.toNat_natCast Int.natCast_nonneg Int.cast_ofNat_Int ne_eq not_false_eq_true updGiven updNew getR muOf nuOf owned isRo List.range.loop List.filter SV.ren CV.ren CV.renL SV.renL Res.ren List.length List.idxOf? List.findIdx? List.findIdx?.go slotsW slotW disB List.range
set_option maxRecDepth 100000
theorem byts_rdR {s : St2} (h : byts s.1) : byts (rdR rNum s).2.1 := byts_rNum (byts_rNum h)
theorem byts_rdM {s : St2} (h : byts s.1) : byts (rdM rNum s).2.1 := byts_rdR (byts_rdR h)
theorem byts_rdD {s : St2} (h : byts s.1) : byts (rdD rNum s).2.1 := byts_rNum (byts_rNum h)
theorem byts_rdL {s : St2} (h : byts s.1) : byts (rdL s).2.1 := byts_rNum (byts_rNum (byts_rNum (byts_rNum h)))
theorem byts_reads {α : Type} {r : Rdr α} (hr : ∀ s, byts s.1 → byts (r s).2.1) : ∀ (n : Nat) (s : St2), byts s.1 → byts (reads r n s).2.1
  | 0, _, h => h
  | n + 1, s, h => by
    unfold reads
    split
    · exact h
    · exact byts_reads hr n _ (hr s h)
theorem byts_rList {α : Type} {r : Rdr α} (hr : ∀ s, byts s.1 → byts (r s).2.1) {s : St2} (h : byts s.1) : byts (rList r s).2.1 := byts_reads hr _ _ (byts_rNum h)
theorem byts_rdO {s : St2} (h : byts s.1) : byts (rdO s).2.1 := byts_rList (fun _ => byts_rdM) (byts_rNum (byts_rNum h))
theorem byts_rImg {s : St2} (h : byts s.1) : byts (rImg s).2.1 := (byts_rTake (byts_rNum h)).2
theorem sp_rdSpot (s : St2) (hb : byts s.1) : FSpec Try.prog 23 [.cv (.ptr 0 0 0 0)] [rS s] (fun v ρ' => v = .agg [iC (rdR rNum s).1.1, iC (rdR rNum s).1.2] ∧ ρ' = [rS (rdR rNum s).2]) := by
  have h1 := sp_rdNum 1 (by omega) s hb
  have h2 := sp_rdNum 1 (by omega) (rNum 1 s).2 (byts_rNum hb)
  unfold rdR
  obtain ⟨A, hA⟩ : ∃ A, rNum 1 s = A := ⟨_, rfl⟩
  rw [hA] at h1 h2 ⊢
  obtain ⟨B, hB⟩ : ∃ B, rNum 1 A.2 = B := ⟨_, rfl⟩
  rw [hB] at h2 ⊢
  refine FSpec.of follow Try.func23 c23 (Nat.le_of_ble_eq_true rfl) fun hf => ?_
  simp only [sc23, go_sem, reduceIte, reduceCtorEq, Nat.reduceAdd, Nat.reduceMul, Nat.reduceSub, Nat.reduceDiv, Nat.reduceMod, Nat.reduceLeDiff, Nat.reduceEqDiff, Nat.reduceBEq, Nat.reduceBNe, Int.reduceBEq, Int.reduceBNe, Int.reduceAdd, Int.reduceSub, Int.reduceMul, Int.reduceLE, Int.reduceLT, Int.reduceEq, Int.reduceNeg, Int.reduceToNat, Nat.reduceLT]
  refine CallC.os h1 [0] ?_
  rintro v ρ' ⟨rfl, rfl⟩
  simp only [go_sem, reduceIte, reduceCtorEq, Nat.reduceAdd, Nat.reduceMul, Nat.reduceSub, Nat.reduceDiv, Nat.reduceMod, Nat.reduceLeDiff, Nat.reduceEqDiff, Nat.reduceBEq, Nat.reduceBNe, Int.reduceBEq, Int.reduceBNe, Int.reduceAdd, Int.reduceSub, Int.reduceMul, Int.reduceLE, Int.reduceLT, Int.reduceEq, Int.reduceNeg, Int.reduceToNat, Nat.reduceLT]
  refine CallC.os h2 [0] ?_
  rintro v ρ' ⟨rfl, rfl⟩
  simp only [go_sem, reduceIte, reduceCtorEq, Nat.reduceAdd, Nat.reduceMul, Nat.reduceSub, Nat.reduceDiv, Nat.reduceMod, Nat.reduceLeDiff, Nat.reduceEqDiff, Nat.reduceBEq, Nat.reduceBNe, Int.reduceBEq, Int.reduceBNe, Int.reduceAdd, Int.reduceSub, Int.reduceMul, Int.reduceLE, Int.reduceLT, Int.reduceEq, Int.reduceNeg, Int.reduceToNat, Nat.reduceLT]
  refine RetC.bk [] ⟨rfl, rfl⟩
theorem sp_rdMove (s : St2) (hb : byts s.1) : FSpec Try.prog 26 [.cv (.ptr 0 0 0 0)] [rS s] (fun v ρ' => v = .agg [iC (rdM rNum s).1.1, iC (rdM rNum s).1.2.1, iC (rdM rNum s).1.2.2.1, iC (rdM rNum s).1.2.2.2] ∧ ρ' = [rS (rdM rNum s).2]) := by
  have h1 := sp_rdSpot s hb
  have h2 := sp_rdSpot (rdR rNum s).2 (byts_rdR hb)
  unfold rdM
  obtain ⟨A, hA⟩ : ∃ A, rdR rNum s = A := ⟨_, rfl⟩
  rw [hA] at h1 h2 ⊢
  obtain ⟨B, hB⟩ : ∃ B, rdR rNum A.2 = B := ⟨_, rfl⟩
  rw [hB] at h2 ⊢
  refine FSpec.of follow Try.func26 c26 (Nat.le_of_ble_eq_true rfl) fun hf => ?_
  simp only [sc26, go_sem, reduceIte, reduceCtorEq, Nat.reduceAdd, Nat.reduceMul, Nat.reduceSub, Nat.reduceDiv, Nat.reduceMod, Nat.reduceLeDiff, Nat.reduceEqDiff, Nat.reduceBEq, Nat.reduceBNe, Int.reduceBEq, Int.reduceBNe, Int.reduceAdd, Int.reduceSub, Int.reduceMul, Int.reduceLE, Int.reduceLT, Int.reduceEq, Int.reduceNeg, Int.reduceToNat, Nat.reduceLT]
  refine CallC.os h1 [0] ?_
  rintro v ρ' ⟨rfl, rfl⟩
  simp only [go_sem, reduceIte, reduceCtorEq, Nat.reduceAdd, Nat.reduceMul, Nat.reduceSub, Nat.reduceDiv, Nat.reduceMod, Nat.reduceLeDiff, Nat.reduceEqDiff, Nat.reduceBEq, Nat.reduceBNe, Int.reduceBEq, Int.reduceBNe, Int.reduceAdd, Int.reduceSub, Int.reduceMul, Int.reduceLE, Int.reduceLT, Int.reduceEq, Int.reduceNeg, Int.reduceToNat, Nat.reduceLT]
  refine CallC.os h2 [0] ?_
  rintro v ρ' ⟨rfl, rfl⟩
  simp only [go_sem, reduceIte, reduceCtorEq, Nat.reduceAdd, Nat.reduceMul, Nat.reduceSub, Nat.reduceDiv, Nat.reduceMod, Nat.reduceLeDiff, Nat.reduceEqDiff, Nat.reduceBEq, Nat.reduceBNe, Int.reduceBEq, Int.reduceBNe, Int.reduceAdd, Int.reduceSub, Int.reduceMul, Int.reduceLE, Int.reduceLT, Int.reduceEq, Int.reduceNeg, Int.reduceToNat, Nat.reduceLT]
  refine RetC.bk [] ⟨rfl, rfl⟩
theorem sp_rdDirty (s : St2) (hb : byts s.1) : FSpec Try.prog 30 [.cv (.ptr 0 0 0 0)] [rS s] (fun v ρ' => v = .agg [iC (rdD rNum s).1.1, iC (rdD rNum s).1.2] ∧ ρ' = [rS (rdD rNum s).2]) := by
  have h1 := sp_rdNum 1 (by omega) s hb
  have h2 := sp_rdNum 3 (by omega) (rNum 1 s).2 (byts_rNum hb)
  unfold rdD
  obtain ⟨A, hA⟩ : ∃ A, rNum 1 s = A := ⟨_, rfl⟩
  rw [hA] at h1 h2 ⊢
  obtain ⟨B, hB⟩ : ∃ B, rNum 3 A.2 = B := ⟨_, rfl⟩
  rw [hB] at h2 ⊢
  refine FSpec.of follow Try.func30 c30 (Nat.le_of_ble_eq_true rfl) fun hf => ?_
  simp only [sc30, go_sem, reduceIte, reduceCtorEq, Nat.reduceAdd, Nat.reduceMul, Nat.reduceSub, Nat.reduceDiv, Nat.reduceMod, Nat.reduceLeDiff, Nat.reduceEqDiff, Nat.reduceBEq, Nat.reduceBNe, Int.reduceBEq, Int.reduceBNe, Int.reduceAdd, Int.reduceSub, Int.reduceMul, Int.reduceLE, Int.reduceLT, Int.reduceEq, Int.reduceNeg, Int.reduceToNat, Nat.reduceLT]
  refine CallC.os h1 [0] ?_
  rintro v ρ' ⟨rfl, rfl⟩
  simp only [go_sem, reduceIte, reduceCtorEq, Nat.reduceAdd, Nat.reduceMul, Nat.reduceSub, Nat.reduceDiv, Nat.reduceMod, Nat.reduceLeDiff, Nat.reduceEqDiff, Nat.reduceBEq, Nat.reduceBNe, Int.reduceBEq, Int.reduceBNe, Int.reduceAdd, Int.reduceSub, Int.reduceMul, Int.reduceLE, Int.reduceLT, Int.reduceEq, Int.reduceNeg, Int.reduceToNat, Nat.reduceLT]
  refine CallC.os h2 [0] ?_
  rintro v ρ' ⟨rfl, rfl⟩
  simp only [go_sem, reduceIte, reduceCtorEq, Nat.reduceAdd, Nat.reduceMul, Nat.reduceSub, Nat.reduceDiv, Nat.reduceMod, Nat.reduceLeDiff, Nat.reduceEqDiff, Nat.reduceBEq, Nat.reduceBNe, Int.reduceBEq, Int.reduceBNe, Int.reduceAdd, Int.reduceSub, Int.reduceMul, Int.reduceLE, Int.reduceLT, Int.reduceEq, Int.reduceNeg, Int.reduceToNat, Nat.reduceLT]
  refine RetC.bk [] ⟨rfl, rfl⟩
theorem sp_rdLive (s : St2) (hb : byts s.1) : FSpec Try.prog 28 [.cv (.ptr 0 0 0 0)] [rS s] (fun v ρ' => v = .agg [iC (rdL s).1.1, iC (rdL s).1.2.1, iC (rdL s).1.2.2.1, bC (rdL s).1.2.2.2] ∧ ρ' = [rS (rdL s).2]) := by
  have h1 := sp_rdNum 1 (by omega) s hb
  have b1 := byts_rNum (n := 1) hb
  have h2 := sp_rdNum 3 (by omega) _ b1
  have b2 := byts_rNum (n := 3) b1
  have h3 := sp_rdNum 3 (by omega) _ b2
  have b3 := byts_rNum (n := 3) b2
  have h4 := sp_rdNum 1 (by omega) _ b3
  unfold rdL
  dsimp only
  obtain ⟨A, hA⟩ : ∃ A, rNum 1 s = A := ⟨_, rfl⟩
  rw [hA] at h1 h2 h3 h4 ⊢
  obtain ⟨B, hB⟩ : ∃ B, rNum 3 A.2 = B := ⟨_, rfl⟩
  rw [hB] at h2 h3 h4 ⊢
  obtain ⟨C, hC⟩ : ∃ C, rNum 3 B.2 = C := ⟨_, rfl⟩
  rw [hC] at h3 h4 ⊢
  obtain ⟨D, hD⟩ : ∃ D, rNum 1 C.2 = D := ⟨_, rfl⟩
  rw [hD] at h4 ⊢
  refine FSpec.of follow Try.func28 c28 (Nat.le_of_ble_eq_true rfl) fun hf => ?_
  simp only [sc28, go_sem, reduceIte, reduceCtorEq, Nat.reduceAdd, Nat.reduceMul, Nat.reduceSub, Nat.reduceDiv, Nat.reduceMod, Nat.reduceLeDiff, Nat.reduceEqDiff, Nat.reduceBEq, Nat.reduceBNe, Int.reduceBEq, Int.reduceBNe, Int.reduceAdd, Int.reduceSub, Int.reduceMul, Int.reduceLE, Int.reduceLT, Int.reduceEq, Int.reduceNeg, Int.reduceToNat, Nat.reduceLT]
  refine CallC.os h1 [0] ?_
  rintro v ρ' ⟨rfl, rfl⟩
  simp only [go_sem, reduceIte, reduceCtorEq, Nat.reduceAdd, Nat.reduceMul, Nat.reduceSub, Nat.reduceDiv, Nat.reduceMod, Nat.reduceLeDiff, Nat.reduceEqDiff, Nat.reduceBEq, Nat.reduceBNe, Int.reduceBEq, Int.reduceBNe, Int.reduceAdd, Int.reduceSub, Int.reduceMul, Int.reduceLE, Int.reduceLT, Int.reduceEq, Int.reduceNeg, Int.reduceToNat, Nat.reduceLT]
  refine CallC.os h2 [0] ?_
  rintro v ρ' ⟨rfl, rfl⟩
  simp only [go_sem, reduceIte, reduceCtorEq, Nat.reduceAdd, Nat.reduceMul, Nat.reduceSub, Nat.reduceDiv, Nat.reduceMod, Nat.reduceLeDiff, Nat.reduceEqDiff, Nat.reduceBEq, Nat.reduceBNe, Int.reduceBEq, Int.reduceBNe, Int.reduceAdd, Int.reduceSub, Int.reduceMul, Int.reduceLE, Int.reduceLT, Int.reduceEq, Int.reduceNeg, Int.reduceToNat, Nat.reduceLT]
  refine CallC.os h3 [0] ?_
  rintro v ρ' ⟨rfl, rfl⟩
  simp only [go_sem, reduceIte, reduceCtorEq, Nat.reduceAdd, Nat.reduceMul, Nat.reduceSub, Nat.reduceDiv, Nat.reduceMod, Nat.reduceLeDiff, Nat.reduceEqDiff, Nat.reduceBEq, Nat.reduceBNe, Int.reduceBEq, Int.reduceBNe, Int.reduceAdd, Int.reduceSub, Int.reduceMul, Int.reduceLE, Int.reduceLT, Int.reduceEq, Int.reduceNeg, Int.reduceToNat, Nat.reduceLT]
  refine CallC.os h4 [0] ?_
  rintro v ρ' ⟨rfl, rfl⟩
  simp only [go_sem, reduceIte, reduceCtorEq, Nat.reduceAdd, Nat.reduceMul, Nat.reduceSub, Nat.reduceDiv, Nat.reduceMod, Nat.reduceLeDiff, Nat.reduceEqDiff, Nat.reduceBEq, Nat.reduceBNe, Int.reduceBEq, Int.reduceBNe, Int.reduceAdd, Int.reduceSub, Int.reduceMul, Int.reduceLE, Int.reduceLT, Int.reduceEq, Int.reduceNeg, Int.reduceToNat, Nat.reduceLT]
  refine RetC.bk [] ⟨rfl, rfl⟩
theorem cvsW_of {rs : List (Nat × Res)} {ν : Nat → Option Nat} {lo hi : Nat} {g f f' : List CV} (h : f = f') (k : cvsW rs ν lo hi g f') : cvsW rs ν lo hi g f := h ▸ k
theorem reads_zero {α : Type} (r : Rdr α) (s : St2) : reads r 0 s = ([], s) := rfl
theorem reads_bad {α : Type} (r : Rdr α) (k : Nat) (s : St2) (h : s.2 = true) : reads r k s = ([], s) := by
  cases k with
  | zero => rfl
  | succ k => unfold reads; rw [if_pos h]
theorem reads_step {α : Type} (r : Rdr α) (k : Nat) (s : St2) (h : s.2 = false) : reads r (k + 1) s = ((r s).1 :: (reads r k (r s).2).1, (reads r k (r s).2).2) := by
  rw [reads, if_neg (by rw [h]; decide)]
end Go.Proofs.Ytbhefgajgdcajaa

/- Two entries that may be have one text of bytes just if they are the same. -/
import Derived.Test.YtbhefgajgdcajaaSxShort
import Derived.Test.YtbhefgajgdcajaaEntArgs
set_option linter.unusedVariables false
set_option linter.unusedSimpArgs false
namespace Go.Proofs.Ytbhefgajgdcajaa
open Sx
attribute [local go_sem] wpC_skip wpC_reg wpC_draw wpC_seq wpC_block wpC_cond wpC_loop wpC_exit wpC_join joinK_n joinK_e joinK_r wpC_ret seqK_n seqK_e seqK_r blockK_n blockK_e blockK_r Fs_nil Fs_none Fs_some stepS_eq Fc_nil Fc_none Fc_some stepC_eq opFn ev cval lk need SV.nm enumR setS setR setRs cellsOf svOf rget spliceC rset src oint eqCells cvs fillC rows ints svDest keyOf2 ridC widens ibool icalc ibin List.replicate List.getD_cons_zero List.getD_cons_succ List.getD_nil List.set_cons_zero List.set_cons_succ List.map_cons List.map_nil List.foldl_cons List.foldl_nil List.length_cons List.length_nil List.drop_zero List.drop_succ_cons List.drop_nil List.take_succ_cons List.take_zero List.take_nil List.cons_append List.nil_append List.append_nil List.headD_cons List.flatten_cons List.flatten_nil Option.map_some Option.map_none Option.getD_none Option.getD_some true_and and_true Nat.zero_add Nat.add_zero appFn svRoom sameO beq_self_eq_true Nat.zero_mul Nat.mul_zero Nat.sub_zero Nat.zero_le Nat.le_refl and_self okB Bool.not_false Bool.true_or Bool.false_or Bool.not_true List.all_nil List.all_cons Int.toNat_zero Int.toNat_one CondC_true CondC_false beq_true beq_false opEn callEn skipEn slotsOf tmpsOf SOp.operands oo free disj List.contains_cons List.contains_nil Option.toList_some Option.toList_none Bool.and_true Bool.true_and Bool.or_false Bool.or_true Bool.and_self Bool.and_false Bool.false_and decide_true decide_false List.range'_succ List.range'_zero Int.toNat_natCast Int.natCast_nonneg Int.cast_ofNat_Int ne_eq not_false_eq_true
set_option maxRecDepth 100000
theorem xor1 {n : Nat} (hn1 : 1 ≤ n) (hn : n ≤ 3) {v : Int} (h : fit n v) : ∃ y, ibits .xor .i64 v 1 = y ∧ fit n y ∧ y ≠ v := by
  obtain ⟨h0, h1⟩ := h
  have e0 : (256 : Int) ^ n = ((2 ^ (8 * n) : Nat) : Int) := by
    have : n = 1 ∨ n = 2 ∨ n = 3 := by omega
    rcases this with rfl | rfl | rfl <;> rfl
  have e1 : (2 : Nat) ^ (8 * n) ≤ 16777216 := by
    have : n = 1 ∨ n = 2 ∨ n = 3 := by omega
    rcases this with rfl | rfl | rfl <;> decide
  have e2 : 1 < (2 : Nat) ^ (8 * n) := by
    have : n = 1 ∨ n = 2 ∨ n = 3 := by omega
    rcases this with rfl | rfl | rfl <;> decide
  rw [e0] at h1
  obtain ⟨a, rfl⟩ : ∃ a : Nat, v = a := ⟨v.toNat, by omega⟩
  have h2 : a < 2 ^ (8 * n) := by omega
  have h3 : a ^^^ 1 < 2 ^ (8 * n) := Nat.xor_lt_two_pow h2 e2
  have h4 : a ^^^ 1 ≠ a := fun h => by
    have := congrArg (fun x => a ^^^ x) h
    simp only [← Nat.xor_assoc, Nat.xor_self, Nat.zero_xor] at this
    exact absurd this (by decide)
  refine ⟨((a ^^^ 1 : Nat) : Int), ?_, ⟨by omega, by rw [e0]; omega⟩, by omega⟩
  unfold ibits
  have key : ∀ x : Int, 0 ≤ x → x < 2 ^ IntKind.i64.bits → (BitVec.ofInt IntKind.i64.bits x).toNat = x.toNat := fun x h0 h1 => by
    rw [BitVec.toNat_ofInt]
    rw [Int.emod_eq_of_lt h0 (by exact_mod_cast h1)]
  have k1 := key (a : Int) (by omega) (by show _ < (2 : Int) ^ 64; omega)
  have k2 := key 1 (by omega) (by show _ < (2 : Int) ^ 64; omega)
  simp only [BitVec.toNat_xor, k1, k2]
  exact i64wrap (by simp only [Int.toNat_natCast]; show _ ≤ ((a ^^^ 1 : Nat) : Int); omega) (by show ((a ^^^ 1 : Nat) : Int) ≤ _; omega)
theorem bst_dec {e f : Ent} (he : e.Byts) (hf : f.Byts) (hm : May e) (hn : May f) : ((bst (wrE e).length (lf (wrE e))).toList == (bst (wrE f).length (lf (wrE f))).toList) = true ↔ e = f := by
  rw [toList_beq, decide_eq_true_iff]
  exact (list_bst (byts_wrE he) (byts_wrE hf)).trans (wrE_inj hm hn)
set_option maxHeartbeats 40000000 in
theorem sp_lawApart (e : Ent) (hB : e.Byts) (hS : e.Sized) (x : Int) (hx : 0 ≤ x ∧ x ≤ 255) : FSpec Try.prog 7 [e.V, .cv (.val (.int .u8 x))] [] (fun v ρ' => v = bV true ∧ ρ' = []) := by
  have hlight := sp_light e hS
  have hme := sp_may e
  refine FSpec.of follow Try.func7 c7 (Nat.le_of_ble_eq_true rfl) fun hf => ?_
  simp only [sc7, go_sem, reduceIte, reduceCtorEq, Nat.reduceAdd, Nat.reduceMul, Nat.reduceSub, Nat.reduceDiv, Nat.reduceMod, Nat.reduceLeDiff, Nat.reduceEqDiff, Nat.reduceBEq, Nat.reduceBNe, Int.reduceBEq, Int.reduceBNe, Int.reduceAdd, Int.reduceSub, Int.reduceMul, Int.reduceLE, Int.reduceLT, Int.reduceEq, Int.reduceNeg, Int.reduceToNat, Nat.reduceLT]
  refine CallC.os sp_begun [] ?_
  rintro v ρ' ⟨rfl, rfl⟩
  simp only [Ent.cells, updGiven, updNew, getR, muOf, nuOf, owned, isRo, List.range, List.range.loop, List.filter, SV.ren, CV.ren, CV.renL, SV.renL, Res.ren, List.length, List.getD_cons_zero, List.getD_cons_succ, List.idxOf?, List.findIdx?, List.findIdx?.go, slotsW, slotW, fitL, fit, disB, Nat.reduceLT, reduceIte, go_sem, reduceIte, reduceCtorEq, Nat.reduceAdd, Nat.reduceMul, Nat.reduceSub, Nat.reduceDiv, Nat.reduceMod, Nat.reduceLeDiff, Nat.reduceEqDiff, Nat.reduceBEq, Nat.reduceBNe, Int.reduceBEq, Int.reduceBNe, Int.reduceAdd, Int.reduceSub, Int.reduceMul, Int.reduceLE, Int.reduceLT, Int.reduceEq, Int.reduceNeg, Int.reduceToNat, Nat.reduceLT]
  refine CallC.os hlight [] ?_
  rintro v ρ' ⟨⟨l1, rfl, hl1⟩, rfl⟩
  cases l1
  case false =>
    simp only [updGiven, updNew, getR, muOf, nuOf, owned, isRo, List.range, List.range.loop, List.filter, SV.ren, CV.ren, CV.renL, SV.renL, Res.ren, List.length, List.getD_cons_zero, List.getD_cons_succ, List.idxOf?, List.findIdx?, List.findIdx?.go, slotsW, slotW, fitL, fit, disB, Nat.reduceLT, reduceIte, go_sem, reduceIte, reduceCtorEq, Nat.reduceAdd, Nat.reduceMul, Nat.reduceSub, Nat.reduceDiv, Nat.reduceMod, Nat.reduceLeDiff, Nat.reduceEqDiff, Nat.reduceBEq, Nat.reduceBNe, Int.reduceBEq, Int.reduceBNe, Int.reduceAdd, Int.reduceSub, Int.reduceMul, Int.reduceLE, Int.reduceLT, Int.reduceEq, Int.reduceNeg, Int.reduceToNat, Nat.reduceLT]
    refine RetC.bk [] ⟨rfl, rfl⟩
  have hL := hl1 rfl
  simp only [updGiven, updNew, getR, muOf, nuOf, owned, isRo, List.range, List.range.loop, List.filter, SV.ren, CV.ren, CV.renL, SV.renL, Res.ren, List.length, List.getD_cons_zero, List.getD_cons_succ, List.idxOf?, List.findIdx?, List.findIdx?.go, slotsW, slotW, fitL, fit, disB, Nat.reduceLT, reduceIte, go_sem, reduceIte, reduceCtorEq, Nat.reduceAdd, Nat.reduceMul, Nat.reduceSub, Nat.reduceDiv, Nat.reduceMod, Nat.reduceLeDiff, Nat.reduceEqDiff, Nat.reduceBEq, Nat.reduceBNe, Int.reduceBEq, Int.reduceBNe, Int.reduceAdd, Int.reduceSub, Int.reduceMul, Int.reduceLE, Int.reduceLT, Int.reduceEq, Int.reduceNeg, Int.reduceToNat, Nat.reduceLT]
  refine CallC.os hme [] ?_
  rintro v ρ' ⟨⟨m1, rfl, hm1⟩, rfl⟩
  cases m1
  case false =>
    simp only [updGiven, updNew, getR, muOf, nuOf, owned, isRo, List.range, List.range.loop, List.filter, SV.ren, CV.ren, CV.renL, SV.renL, Res.ren, List.length, List.getD_cons_zero, List.getD_cons_succ, List.idxOf?, List.findIdx?, List.findIdx?.go, slotsW, slotW, fitL, fit, disB, Nat.reduceLT, reduceIte, go_sem, reduceIte, reduceCtorEq, Nat.reduceAdd, Nat.reduceMul, Nat.reduceSub, Nat.reduceDiv, Nat.reduceMod, Nat.reduceLeDiff, Nat.reduceEqDiff, Nat.reduceBEq, Nat.reduceBNe, Int.reduceBEq, Int.reduceBNe, Int.reduceAdd, Int.reduceSub, Int.reduceMul, Int.reduceLE, Int.reduceLT, Int.reduceEq, Int.reduceNeg, Int.reduceToNat, Nat.reduceLT]
    refine RetC.bk [] ⟨rfl, rfl⟩
  have hM := hm1.1 rfl
  have hpe := sp_put e
  rw [putE_may hM] at hpe
  obtain ⟨q, hq, hq1⟩ : ∃ q : Int, x.tmod 10 = q ∧ (q = 0 ∨ q = 1 ∨ q = 2 ∨ q = 3 ∨ q = 4 ∨ q = 5 ∨ q = 6 ∨ q = 7 ∨ q = 8 ∨ q = 9) := ⟨_, rfl, by rw [Int.tmod_eq_emod_of_nonneg hx.1]; omega⟩
  rcases hq1 with rfl | rfl | rfl | rfl | rfl | rfl | rfl | rfl | rfl | rfl
  case' inl =>
    obtain ⟨y, hxy, hy, hyn⟩ := xor1 (n := 1) (by omega) (by omega) hM.t
    have hN : May { e with t := y } := ⟨hM.k, hy, hM.h, hM.u, hM.p, hM.n, hM.a, hM.b, hM.c, hM.d, hM.o, hM.w, hM.m, hM.l, hM.y, hM.q⟩
    have hne : e ≠ { e with t := y } := fun h => hyn (congrArg Ent.t h).symm
    have sm := sp_may { e with t := y }
    have ss := sp_same e { e with t := y } hB hB hL.fine
    have sp := sp_put { e with t := y }
    rw [putE_may hN] at sp
    have hE : e = { e with t := y } ↔ false = true := iff_of_false hne (by decide)
    have hD := Bool.eq_iff_iff.2 ((bst_dec hB (f := { e with t := y }) hB hM hN).trans hE)
    simp only [hq, hxy, updGiven, updNew, getR, muOf, nuOf, owned, isRo, List.range, List.range.loop, List.filter, SV.ren, CV.ren, CV.renL, SV.renL, Res.ren, List.length, List.getD_cons_zero, List.getD_cons_succ, List.idxOf?, List.findIdx?, List.findIdx?.go, slotsW, slotW, fitL, fit, disB, Nat.reduceLT, reduceIte, go_sem, reduceIte, reduceCtorEq, Nat.reduceAdd, Nat.reduceMul, Nat.reduceSub, Nat.reduceDiv, Nat.reduceMod, Nat.reduceLeDiff, Nat.reduceEqDiff, Nat.reduceBEq, Nat.reduceBNe, Int.reduceBEq, Int.reduceBNe, Int.reduceAdd, Int.reduceSub, Int.reduceMul, Int.reduceLE, Int.reduceLT, Int.reduceEq, Int.reduceNeg, Int.reduceToNat, Nat.reduceLT]
  case' inr.inl =>
    obtain ⟨y, hxy, hy, hyn⟩ := xor1 (n := 3) (by omega) (by omega) hM.p
    have hN : May { e with p := y } := ⟨hM.k, hM.t, hM.h, hM.u, hy, hM.n, hM.a, hM.b, hM.c, hM.d, hM.o, hM.w, hM.m, hM.l, hM.y, hM.q⟩
    have hne : e ≠ { e with p := y } := fun h => hyn (congrArg Ent.p h).symm
    have sm := sp_may { e with p := y }
    have ss := sp_same e { e with p := y } hB hB hL.fine
    have sp := sp_put { e with p := y }
    rw [putE_may hN] at sp
    have hE : e = { e with p := y } ↔ false = true := iff_of_false hne (by decide)
    have hD := Bool.eq_iff_iff.2 ((bst_dec hB (f := { e with p := y }) hB hM hN).trans hE)
    simp only [hq, hxy, updGiven, updNew, getR, muOf, nuOf, owned, isRo, List.range, List.range.loop, List.filter, SV.ren, CV.ren, CV.renL, SV.renL, Res.ren, List.length, List.getD_cons_zero, List.getD_cons_succ, List.idxOf?, List.findIdx?, List.findIdx?.go, slotsW, slotW, fitL, fit, disB, Nat.reduceLT, reduceIte, go_sem, reduceIte, reduceCtorEq, Nat.reduceAdd, Nat.reduceMul, Nat.reduceSub, Nat.reduceDiv, Nat.reduceMod, Nat.reduceLeDiff, Nat.reduceEqDiff, Nat.reduceBEq, Nat.reduceBNe, Int.reduceBEq, Int.reduceBNe, Int.reduceAdd, Int.reduceSub, Int.reduceMul, Int.reduceLE, Int.reduceLT, Int.reduceEq, Int.reduceNeg, Int.reduceToNat, Nat.reduceLT]
  case' inr.inr.inl =>
    obtain ⟨y, hxy, hy, hyn⟩ := xor1 (n := 3) (by omega) (by omega) hM.n
    have hN : May { e with n := y } := ⟨hM.k, hM.t, hM.h, hM.u, hM.p, hy, hM.a, hM.b, hM.c, hM.d, hM.o, hM.w, hM.m, hM.l, hM.y, hM.q⟩
    have hne : e ≠ { e with n := y } := fun h => hyn (congrArg Ent.n h).symm
    have sm := sp_may { e with n := y }
    have ss := sp_same e { e with n := y } hB hB hL.fine
    have sp := sp_put { e with n := y }
    rw [putE_may hN] at sp
    have hE : e = { e with n := y } ↔ false = true := iff_of_false hne (by decide)
    have hD := Bool.eq_iff_iff.2 ((bst_dec hB (f := { e with n := y }) hB hM hN).trans hE)
    simp only [hq, hxy, updGiven, updNew, getR, muOf, nuOf, owned, isRo, List.range, List.range.loop, List.filter, SV.ren, CV.ren, CV.renL, SV.renL, Res.ren, List.length, List.getD_cons_zero, List.getD_cons_succ, List.idxOf?, List.findIdx?, List.findIdx?.go, slotsW, slotW, fitL, fit, disB, Nat.reduceLT, reduceIte, go_sem, reduceIte, reduceCtorEq, Nat.reduceAdd, Nat.reduceMul, Nat.reduceSub, Nat.reduceDiv, Nat.reduceMod, Nat.reduceLeDiff, Nat.reduceEqDiff, Nat.reduceBEq, Nat.reduceBNe, Int.reduceBEq, Int.reduceBNe, Int.reduceAdd, Int.reduceSub, Int.reduceMul, Int.reduceLE, Int.reduceLT, Int.reduceEq, Int.reduceNeg, Int.reduceToNat, Nat.reduceLT]
  case' inr.inr.inr.inl =>
    obtain ⟨y, hxy, hy, hyn⟩ := xor1 (n := 1) (by omega) (by omega) hM.b
    have hN : May { e with b := y } := ⟨hM.k, hM.t, hM.h, hM.u, hM.p, hM.n, hM.a, hy, hM.c, hM.d, hM.o, hM.w, hM.m, hM.l, hM.y, hM.q⟩
    have hne : e ≠ { e with b := y } := fun h => hyn (congrArg Ent.b h).symm
    have sm := sp_may { e with b := y }
    have ss := sp_same e { e with b := y } hB hB hL.fine
    have sp := sp_put { e with b := y }
    rw [putE_may hN] at sp
    have hE : e = { e with b := y } ↔ false = true := iff_of_false hne (by decide)
    have hD := Bool.eq_iff_iff.2 ((bst_dec hB (f := { e with b := y }) hB hM hN).trans hE)
    simp only [hq, hxy, updGiven, updNew, getR, muOf, nuOf, owned, isRo, List.range, List.range.loop, List.filter, SV.ren, CV.ren, CV.renL, SV.renL, Res.ren, List.length, List.getD_cons_zero, List.getD_cons_succ, List.idxOf?, List.findIdx?, List.findIdx?.go, slotsW, slotW, fitL, fit, disB, Nat.reduceLT, reduceIte, go_sem, reduceIte, reduceCtorEq, Nat.reduceAdd, Nat.reduceMul, Nat.reduceSub, Nat.reduceDiv, Nat.reduceMod, Nat.reduceLeDiff, Nat.reduceEqDiff, Nat.reduceBEq, Nat.reduceBNe, Int.reduceBEq, Int.reduceBNe, Int.reduceAdd, Int.reduceSub, Int.reduceMul, Int.reduceLE, Int.reduceLT, Int.reduceEq, Int.reduceNeg, Int.reduceToNat, Nat.reduceLT]
  case' inr.inr.inr.inr.inl =>
    obtain ⟨y, hxy, hy, hyn⟩ := xor1 (n := 1) (by omega) (by omega) hM.c
    have hN : May { e with c := y } := ⟨hM.k, hM.t, hM.h, hM.u, hM.p, hM.n, hM.a, hM.b, hy, hM.d, hM.o, hM.w, hM.m, hM.l, hM.y, hM.q⟩
    have hne : e ≠ { e with c := y } := fun h => hyn (congrArg Ent.c h).symm
    have sm := sp_may { e with c := y }
    have ss := sp_same e { e with c := y } hB hB hL.fine
    have sp := sp_put { e with c := y }
    rw [putE_may hN] at sp
    have hE : e = { e with c := y } ↔ false = true := iff_of_false hne (by decide)
    have hD := Bool.eq_iff_iff.2 ((bst_dec hB (f := { e with c := y }) hB hM hN).trans hE)
    simp only [hq, hxy, updGiven, updNew, getR, muOf, nuOf, owned, isRo, List.range, List.range.loop, List.filter, SV.ren, CV.ren, CV.renL, SV.renL, Res.ren, List.length, List.getD_cons_zero, List.getD_cons_succ, List.idxOf?, List.findIdx?, List.findIdx?.go, slotsW, slotW, fitL, fit, disB, Nat.reduceLT, reduceIte, go_sem, reduceIte, reduceCtorEq, Nat.reduceAdd, Nat.reduceMul, Nat.reduceSub, Nat.reduceDiv, Nat.reduceMod, Nat.reduceLeDiff, Nat.reduceEqDiff, Nat.reduceBEq, Nat.reduceBNe, Int.reduceBEq, Int.reduceBNe, Int.reduceAdd, Int.reduceSub, Int.reduceMul, Int.reduceLE, Int.reduceLT, Int.reduceEq, Int.reduceNeg, Int.reduceToNat, Nat.reduceLT]
  case' inr.inr.inr.inr.inr.inl =>
    obtain ⟨y, hxy, hy, hyn⟩ := xor1 (n := 2) (by omega) (by omega) hM.u
    have hN : May { e with u := y } := ⟨hM.k, hM.t, hM.h, hy, hM.p, hM.n, hM.a, hM.b, hM.c, hM.d, hM.o, hM.w, hM.m, hM.l, hM.y, hM.q⟩
    have hne : e ≠ { e with u := y } := fun h => hyn (congrArg Ent.u h).symm
    have sm := sp_may { e with u := y }
    have ss := sp_same e { e with u := y } hB hB hL.fine
    have sp := sp_put { e with u := y }
    rw [putE_may hN] at sp
    have hE : e = { e with u := y } ↔ false = true := iff_of_false hne (by decide)
    have hD := Bool.eq_iff_iff.2 ((bst_dec hB (f := { e with u := y }) hB hM hN).trans hE)
    simp only [hq, hxy, updGiven, updNew, getR, muOf, nuOf, owned, isRo, List.range, List.range.loop, List.filter, SV.ren, CV.ren, CV.renL, SV.renL, Res.ren, List.length, List.getD_cons_zero, List.getD_cons_succ, List.idxOf?, List.findIdx?, List.findIdx?.go, slotsW, slotW, fitL, fit, disB, Nat.reduceLT, reduceIte, go_sem, reduceIte, reduceCtorEq, Nat.reduceAdd, Nat.reduceMul, Nat.reduceSub, Nat.reduceDiv, Nat.reduceMod, Nat.reduceLeDiff, Nat.reduceEqDiff, Nat.reduceBEq, Nat.reduceBNe, Int.reduceBEq, Int.reduceBNe, Int.reduceAdd, Int.reduceSub, Int.reduceMul, Int.reduceLE, Int.reduceLT, Int.reduceEq, Int.reduceNeg, Int.reduceToNat, Nat.reduceLT]
  case' inr.inr.inr.inr.inr.inr.inl =>
    obtain ⟨y, hxy, hy, hyn⟩ := xor1 (n := 1) (by omega) (by omega) hM.h
    have hN : May { e with h := y } := ⟨hM.k, hM.t, hy, hM.u, hM.p, hM.n, hM.a, hM.b, hM.c, hM.d, hM.o, hM.w, hM.m, hM.l, hM.y, hM.q⟩
    have hne : e ≠ { e with h := y } := fun h => hyn (congrArg Ent.h h).symm
    have sm := sp_may { e with h := y }
    have ss := sp_same e { e with h := y } hB hB hL.fine
    have sp := sp_put { e with h := y }
    rw [putE_may hN] at sp
    have hE : e = { e with h := y } ↔ false = true := iff_of_false hne (by decide)
    have hD := Bool.eq_iff_iff.2 ((bst_dec hB (f := { e with h := y }) hB hM hN).trans hE)
    simp only [hq, hxy, updGiven, updNew, getR, muOf, nuOf, owned, isRo, List.range, List.range.loop, List.filter, SV.ren, CV.ren, CV.renL, SV.renL, Res.ren, List.length, List.getD_cons_zero, List.getD_cons_succ, List.idxOf?, List.findIdx?, List.findIdx?.go, slotsW, slotW, fitL, fit, disB, Nat.reduceLT, reduceIte, go_sem, reduceIte, reduceCtorEq, Nat.reduceAdd, Nat.reduceMul, Nat.reduceSub, Nat.reduceDiv, Nat.reduceMod, Nat.reduceLeDiff, Nat.reduceEqDiff, Nat.reduceBEq, Nat.reduceBNe, Int.reduceBEq, Int.reduceBNe, Int.reduceAdd, Int.reduceSub, Int.reduceMul, Int.reduceLE, Int.reduceLT, Int.reduceEq, Int.reduceNeg, Int.reduceToNat, Nat.reduceLT]
  case' inr.inr.inr.inr.inr.inr.inr.inl =>
    have hMl := hM.m.1
    obtain ⟨X, hX, hXl⟩ : ∃ X, e.m ++ [((0, 0, 0, 0) : Mv)] = X ∧ X.length = e.m.length + 1 := ⟨_, rfl, by simp⟩
    have hst : ∀ j, j < X.length → (if j < e.m.length then if j < 0 then [] else mvC e.m j else List.take 4 (List.drop ((j - e.m.length) * 4) [CV.val (.int .i64 0), CV.val (.int .i64 0), CV.val (.int .i64 0), CV.val (.int .i64 0)])) = mvC X j := fun j hj => by
      rw [← hX]
      have := row_appM e.m (0, 0, 0, 0) (show j < e.m.length + 1 by omega)
      rw [← this]
      (repeat' split) <;> first | rfl | (exfalso; omega)
    have hne : e ≠ { e with m := X } := fun h => by
      have := congrArg List.length (congrArg Ent.m h)
      dsimp only at this
      omega
    have sm := sp_may { e with m := X }
    have ss := sp_same e { e with m := X } hB hB hL.fine
    have sp := sp_put { e with m := X }
    simp only [hq, updGiven, updNew, getR, muOf, nuOf, owned, isRo, List.range, List.range.loop, List.filter, SV.ren, CV.ren, CV.renL, SV.renL, Res.ren, List.length, List.getD_cons_zero, List.getD_cons_succ, List.idxOf?, List.findIdx?, List.findIdx?.go, slotsW, slotW, fitL, fit, disB, Nat.reduceLT, reduceIte, go_sem, reduceIte, reduceCtorEq, Nat.reduceAdd, Nat.reduceMul, Nat.reduceSub, Nat.reduceDiv, Nat.reduceMod, Nat.reduceLeDiff, Nat.reduceEqDiff, Nat.reduceBEq, Nat.reduceBNe, Int.reduceBEq, Int.reduceBNe, Int.reduceAdd, Int.reduceSub, Int.reduceMul, Int.reduceLE, Int.reduceLT, Int.reduceEq, Int.reduceNeg, Int.reduceToNat, Nat.reduceLT]
    repeat (refine And.intro (by first | omega | (unfold inI64; omega) | (simp only [u8min, u8max, u16min, u16max, u32min, u32max]; omega)) ?_)
    rw [← hXl]
    refine CallC.of_fz sm [(303, .frz 4 X.length (mvC X))] [] ⟨⟨rfl, Nat.le_refl _, .inl fun j hj => (congrArg (CV.renL noNm) (hst j hj)).trans rfl⟩, trivial⟩ rfl rfl (by repeat' (first | exact trivial | exact rfl | exact Or.inl rfl | exact slotW_ren _ | exact cvW_ren _ | exact cvsW_ren _ | exact Nat.le_refl _ | exact slotW_frz rfl (Nat.le_refl _) | exact slotW_nil (Nat.le_of_ble_eq_true rfl) | exact cvW_frz rfl (Nat.le_refl _) | exact cvW_nil (Nat.le_of_ble_eq_true rfl) | exact Or.inl fun _ _ => rfl | exact fun _ _ => rfl | exact Nat.le_of_ble_eq_true rfl | refine ⟨Or.inl ⟨Nat.le_of_ble_eq_true rfl, ?_⟩, ?_⟩ | refine ⟨Or.inr ⟨Nat.le_of_ble_eq_true rfl, Nat.le_of_ble_eq_true rfl, Nat.le_of_ble_eq_true rfl⟩, ?_⟩ | exact Or.inr ⟨rfl, rfl, rfl, rfl, Nat.le_of_ble_eq_true rfl, Nat.le_of_ble_eq_true rfl, Nat.le_of_ble_eq_true rfl⟩ | refine ⟨?_, ?_⟩)) (by repeat' (first | exact trivial | exact rfl | exact Or.inl rfl | exact slotW_ren _ | exact cvW_ren _ | exact cvsW_ren _ | exact Nat.le_refl _ | exact slotW_frz rfl (Nat.le_refl _) | exact slotW_nil (Nat.le_of_ble_eq_true rfl) | exact cvW_frz rfl (Nat.le_refl _) | exact cvW_nil (Nat.le_of_ble_eq_true rfl) | exact Or.inl fun _ _ => rfl | exact fun _ _ => rfl | exact Nat.le_of_ble_eq_true rfl | refine ⟨Or.inl ⟨Nat.le_of_ble_eq_true rfl, ?_⟩, ?_⟩ | refine ⟨Or.inr ⟨Nat.le_of_ble_eq_true rfl, Nat.le_of_ble_eq_true rfl, Nat.le_of_ble_eq_true rfl⟩, ?_⟩ | exact Or.inr ⟨rfl, rfl, rfl, rfl, Nat.le_of_ble_eq_true rfl, Nat.le_of_ble_eq_true rfl, Nat.le_of_ble_eq_true rfl⟩ | refine ⟨?_, ?_⟩)) rfl rfl ?_
    rintro v ρ' ⟨⟨m2, rfl, hm2⟩, rfl⟩
    by_cases h40 : e.m.length = 40
    · obtain rfl : m2 = false := by
        cases m2
        · rfl
        · have := (hm2.1 rfl).m.1; dsimp only at this; omega
      have e40 : ((e.m.length : Int) == 40) = true := by rw [h40]; rfl
      simp only [hq, e40, updGiven, updNew, getR, muOf, nuOf, owned, isRo, List.range, List.range.loop, List.filter, SV.ren, CV.ren, CV.renL, SV.renL, Res.ren, List.length, List.getD_cons_zero, List.getD_cons_succ, List.idxOf?, List.findIdx?, List.findIdx?.go, slotsW, slotW, fitL, fit, disB, Nat.reduceLT, reduceIte, go_sem, reduceIte, reduceCtorEq, Nat.reduceAdd, Nat.reduceMul, Nat.reduceSub, Nat.reduceDiv, Nat.reduceMod, Nat.reduceLeDiff, Nat.reduceEqDiff, Nat.reduceBEq, Nat.reduceBNe, Int.reduceBEq, Int.reduceBNe, Int.reduceAdd, Int.reduceSub, Int.reduceMul, Int.reduceLE, Int.reduceLT, Int.reduceEq, Int.reduceNeg, Int.reduceToNat, Nat.reduceLT]
      repeat (refine And.intro (by first | omega | (unfold inI64; omega) | (simp only [u8min, u8max, u16min, u16max, u32min, u32max]; omega)) ?_)
      refine RetC.bk [] ⟨rfl, rfl⟩
    have hN : May { e with m := X } := ⟨hM.k, hM.t, hM.h, hM.u, hM.p, hM.n, hM.a, hM.b, hM.c, hM.d, hM.o, hM.w, ⟨by dsimp only; omega, fun y hy => by
      rw [← hX] at hy
      rcases List.mem_append.1 hy with hy | hy
      · exact hM.m.2 y hy
      · rw [List.mem_singleton] at hy; rw [hy]; decide⟩, hM.l, hM.y, hM.q⟩
    obtain rfl : m2 = true := hm2.2 hN
    rw [putE_may hN] at sp
    have hE : e = { e with m := X } ↔ false = true := iff_of_false hne (by decide)
    have hD := Bool.eq_iff_iff.2 ((bst_dec hB (f := { e with m := X }) hB hM hN).trans hE)
    simp only [updGiven, updNew, getR, muOf, nuOf, owned, isRo, List.range, List.range.loop, List.filter, SV.ren, CV.ren, CV.renL, SV.renL, Res.ren, List.length, List.getD_cons_zero, List.getD_cons_succ, List.idxOf?, List.findIdx?, List.findIdx?.go, slotsW, slotW, fitL, fit, disB, Nat.reduceLT, reduceIte, go_sem, reduceIte, reduceCtorEq, Nat.reduceAdd, Nat.reduceMul, Nat.reduceSub, Nat.reduceDiv, Nat.reduceMod, Nat.reduceLeDiff, Nat.reduceEqDiff, Nat.reduceBEq, Nat.reduceBNe, Int.reduceBEq, Int.reduceBNe, Int.reduceAdd, Int.reduceSub, Int.reduceMul, Int.reduceLE, Int.reduceLT, Int.reduceEq, Int.reduceNeg, Int.reduceToNat, Nat.reduceLT]
    refine CallC.of_fz ss [(303, .frz 4 X.length (mvC X))] [] ⟨⟨rfl, Nat.le_refl _, .inl fun j hj => rfl⟩, trivial⟩ rfl rfl (by repeat' (first | exact trivial | exact rfl | exact Or.inl rfl | exact slotW_ren _ | exact cvW_ren _ | exact cvsW_ren _ | exact Nat.le_refl _ | exact slotW_frz rfl (Nat.le_refl _) | exact slotW_nil (Nat.le_of_ble_eq_true rfl) | exact cvW_frz rfl (Nat.le_refl _) | exact cvW_nil (Nat.le_of_ble_eq_true rfl) | exact Or.inl fun _ _ => rfl | exact fun _ _ => rfl | exact Nat.le_of_ble_eq_true rfl | refine ⟨Or.inl ⟨Nat.le_of_ble_eq_true rfl, ?_⟩, ?_⟩ | refine ⟨Or.inr ⟨Nat.le_of_ble_eq_true rfl, Nat.le_of_ble_eq_true rfl, Nat.le_of_ble_eq_true rfl⟩, ?_⟩ | exact Or.inr ⟨rfl, rfl, rfl, rfl, Nat.le_of_ble_eq_true rfl, Nat.le_of_ble_eq_true rfl, Nat.le_of_ble_eq_true rfl⟩ | refine ⟨?_, ?_⟩)) (by repeat' (first | exact trivial | exact rfl | exact Or.inl rfl | exact slotW_ren _ | exact cvW_ren _ | exact cvsW_ren _ | exact Nat.le_refl _ | exact slotW_frz rfl (Nat.le_refl _) | exact slotW_nil (Nat.le_of_ble_eq_true rfl) | exact cvW_frz rfl (Nat.le_refl _) | exact cvW_nil (Nat.le_of_ble_eq_true rfl) | exact Or.inl fun _ _ => rfl | exact fun _ _ => rfl | exact Nat.le_of_ble_eq_true rfl | refine ⟨Or.inl ⟨Nat.le_of_ble_eq_true rfl, ?_⟩, ?_⟩ | refine ⟨Or.inr ⟨Nat.le_of_ble_eq_true rfl, Nat.le_of_ble_eq_true rfl, Nat.le_of_ble_eq_true rfl⟩, ?_⟩ | exact Or.inr ⟨rfl, rfl, rfl, rfl, Nat.le_of_ble_eq_true rfl, Nat.le_of_ble_eq_true rfl, Nat.le_of_ble_eq_true rfl⟩ | refine ⟨?_, ?_⟩)) rfl rfl ?_
    rintro v ρ' ⟨⟨s1, rfl, hs1⟩, rfl⟩
    obtain rfl := Bool.eq_iff_iff.2 (hs1.trans hE)
    simp only [beq_self_eq_true, updGiven, updNew, getR, muOf, nuOf, owned, isRo, List.range, List.range.loop, List.filter, SV.ren, CV.ren, CV.renL, SV.renL, Res.ren, List.length, List.getD_cons_zero, List.getD_cons_succ, List.idxOf?, List.findIdx?, List.findIdx?.go, slotsW, slotW, fitL, fit, disB, Nat.reduceLT, reduceIte, go_sem, reduceIte, reduceCtorEq, Nat.reduceAdd, Nat.reduceMul, Nat.reduceSub, Nat.reduceDiv, Nat.reduceMod, Nat.reduceLeDiff, Nat.reduceEqDiff, Nat.reduceBEq, Nat.reduceBNe, Int.reduceBEq, Int.reduceBNe, Int.reduceAdd, Int.reduceSub, Int.reduceMul, Int.reduceLE, Int.reduceLT, Int.reduceEq, Int.reduceNeg, Int.reduceToNat, Nat.reduceLT]
    refine CallC.os hpe [] ?_
    rintro v ρ' ⟨rfl, rfl⟩
    simp only [updGiven, updNew, getR, muOf, nuOf, owned, isRo, List.range, List.range.loop, List.filter, SV.ren, CV.ren, CV.renL, SV.renL, Res.ren, List.length, List.getD_cons_zero, List.getD_cons_succ, List.idxOf?, List.findIdx?, List.findIdx?.go, slotsW, slotW, fitL, fit, disB, Nat.reduceLT, reduceIte, go_sem, reduceIte, reduceCtorEq, Nat.reduceAdd, Nat.reduceMul, Nat.reduceSub, Nat.reduceDiv, Nat.reduceMod, Nat.reduceLeDiff, Nat.reduceEqDiff, Nat.reduceBEq, Nat.reduceBNe, Int.reduceBEq, Int.reduceBNe, Int.reduceAdd, Int.reduceSub, Int.reduceMul, Int.reduceLE, Int.reduceLT, Int.reduceEq, Int.reduceNeg, Int.reduceToNat, Nat.reduceLT]
    refine ⟨fun j hj => ⟨_, rfl⟩, ?_⟩
    refine CallC.of_fz sp [(303, .frz 4 X.length (mvC X))] [] ⟨⟨rfl, Nat.le_refl _, .inl fun j hj => rfl⟩, trivial⟩ rfl rfl (by repeat' (first | exact trivial | exact rfl | exact Or.inl rfl | exact slotW_ren _ | exact cvW_ren _ | exact cvsW_ren _ | exact Nat.le_refl _ | exact slotW_frz rfl (Nat.le_refl _) | exact slotW_nil (Nat.le_of_ble_eq_true rfl) | exact cvW_frz rfl (Nat.le_refl _) | exact cvW_nil (Nat.le_of_ble_eq_true rfl) | exact Or.inl fun _ _ => rfl | exact fun _ _ => rfl | exact Nat.le_of_ble_eq_true rfl | refine ⟨Or.inl ⟨Nat.le_of_ble_eq_true rfl, ?_⟩, ?_⟩ | refine ⟨Or.inr ⟨Nat.le_of_ble_eq_true rfl, Nat.le_of_ble_eq_true rfl, Nat.le_of_ble_eq_true rfl⟩, ?_⟩ | exact Or.inr ⟨rfl, rfl, rfl, rfl, Nat.le_of_ble_eq_true rfl, Nat.le_of_ble_eq_true rfl, Nat.le_of_ble_eq_true rfl⟩ | refine ⟨?_, ?_⟩)) (by repeat' (first | exact trivial | exact rfl | exact Or.inl rfl | exact slotW_ren _ | exact cvW_ren _ | exact cvsW_ren _ | exact Nat.le_refl _ | exact slotW_frz rfl (Nat.le_refl _) | exact slotW_nil (Nat.le_of_ble_eq_true rfl) | exact cvW_frz rfl (Nat.le_refl _) | exact cvW_nil (Nat.le_of_ble_eq_true rfl) | exact Or.inl fun _ _ => rfl | exact fun _ _ => rfl | exact Nat.le_of_ble_eq_true rfl | refine ⟨Or.inl ⟨Nat.le_of_ble_eq_true rfl, ?_⟩, ?_⟩ | refine ⟨Or.inr ⟨Nat.le_of_ble_eq_true rfl, Nat.le_of_ble_eq_true rfl, Nat.le_of_ble_eq_true rfl⟩, ?_⟩ | exact Or.inr ⟨rfl, rfl, rfl, rfl, Nat.le_of_ble_eq_true rfl, Nat.le_of_ble_eq_true rfl, Nat.le_of_ble_eq_true rfl⟩ | refine ⟨?_, ?_⟩)) rfl rfl ?_
    rintro v ρ' ⟨rfl, rfl⟩
    simp only [updGiven, updNew, getR, muOf, nuOf, owned, isRo, List.range, List.range.loop, List.filter, SV.ren, CV.ren, CV.renL, SV.renL, Res.ren, List.length, List.getD_cons_zero, List.getD_cons_succ, List.idxOf?, List.findIdx?, List.findIdx?.go, slotsW, slotW, fitL, fit, disB, Nat.reduceLT, reduceIte, go_sem, reduceIte, reduceCtorEq, Nat.reduceAdd, Nat.reduceMul, Nat.reduceSub, Nat.reduceDiv, Nat.reduceMod, Nat.reduceLeDiff, Nat.reduceEqDiff, Nat.reduceBEq, Nat.reduceBNe, Int.reduceBEq, Int.reduceBNe, Int.reduceAdd, Int.reduceSub, Int.reduceMul, Int.reduceLE, Int.reduceLT, Int.reduceEq, Int.reduceNeg, Int.reduceToNat, Nat.reduceLT]
    refine ⟨fun j hj => ⟨_, rfl⟩, ?_⟩
    simp only [hD, beq_self_eq_true, go_sem, reduceIte, reduceCtorEq, Nat.reduceAdd, Nat.reduceMul, Nat.reduceSub, Nat.reduceDiv, Nat.reduceMod, Nat.reduceLeDiff, Nat.reduceEqDiff, Nat.reduceBEq, Nat.reduceBNe, Int.reduceBEq, Int.reduceBNe, Int.reduceAdd, Int.reduceSub, Int.reduceMul, Int.reduceLE, Int.reduceLT, Int.reduceEq, Int.reduceNeg, Int.reduceToNat, Nat.reduceLT]
    refine RetC.bk [] ⟨rfl, rfl⟩
  case' inr.inr.inr.inr.inr.inr.inr.inr.inl =>
    have hN : May { e with o := e.w, w := e.o } := ⟨hM.k, hM.t, hM.h, hM.u, hM.p, hM.n, hM.a, hM.b, hM.c, hM.d, hM.w, hM.o, hM.m, hM.l, hM.y, hM.q⟩
    have sm := sp_may { e with o := e.w, w := e.o }
    have ss := sp_same e { e with o := e.w, w := e.o } hB ⟨hB.2, hB.1⟩ hL.fine
    have sp := sp_put { e with o := e.w, w := e.o }
    rw [putE_may hN] at sp
    have hT : ((bst e.o.length (lf e.o)).toList == (bst e.w.length (lf e.w)).toList) = true ↔ e.o = e.w := by rw [toList_beq, decide_eq_true_iff]; exact list_bst hB.1 hB.2
    obtain ⟨S, hSS⟩ : ∃ S, ((bst e.o.length (lf e.o)).toList == (bst e.w.length (lf e.w)).toList) = S := ⟨_, rfl⟩
    rw [hSS] at hT
    have hE : e = { e with o := e.w, w := e.o } ↔ S = true := ⟨fun h => hT.2 (congrArg Ent.o h), fun h => by
      have h1 := hT.1 h
      obtain ⟨⟩ := e
      simp only at h1 ⊢
      rw [h1]⟩
    have hD := Bool.eq_iff_iff.2 ((bst_dec hB (f := { e with o := e.w, w := e.o }) ⟨hB.2, hB.1⟩ hM hN).trans hE)
    have hSS' : ((bstr e.o.length (byf (lf e.o))).toList == (bstr e.w.length (byf (lf e.w))).toList) = S := hSS
    simp only [hq, hSS', updGiven, updNew, getR, muOf, nuOf, owned, isRo, List.range, List.range.loop, List.filter, SV.ren, CV.ren, CV.renL, SV.renL, Res.ren, List.length, List.getD_cons_zero, List.getD_cons_succ, List.idxOf?, List.findIdx?, List.findIdx?.go, slotsW, slotW, fitL, fit, disB, Nat.reduceLT, reduceIte, go_sem, reduceIte, reduceCtorEq, Nat.reduceAdd, Nat.reduceMul, Nat.reduceSub, Nat.reduceDiv, Nat.reduceMod, Nat.reduceLeDiff, Nat.reduceEqDiff, Nat.reduceBEq, Nat.reduceBNe, Int.reduceBEq, Int.reduceBNe, Int.reduceAdd, Int.reduceSub, Int.reduceMul, Int.reduceLE, Int.reduceLT, Int.reduceEq, Int.reduceNeg, Int.reduceToNat, Nat.reduceLT]
    repeat (refine And.intro (by first | omega | (unfold inI64; omega) | (simp only [u8min, u8max, u16min, u16max, u32min, u32max]; omega)) ?_)
    refine ⟨fun j hj => ⟨_, rfl⟩, fun j hj => ⟨_, rfl⟩, ?_⟩
    skip
  case' inr.inr.inr.inr.inr.inr.inr.inr.inr =>
    have hN := hM
    have sm := sp_may e
    have ss := sp_same e e hB hB hL.fine
    have sp := hpe
    have hE : e = e ↔ true = true := iff_of_true rfl rfl
    have hD := Bool.eq_iff_iff.2 ((bst_dec hB hB hM hM).trans hE)
    simp only [hq, updGiven, updNew, getR, muOf, nuOf, owned, isRo, List.range, List.range.loop, List.filter, SV.ren, CV.ren, CV.renL, SV.renL, Res.ren, List.length, List.getD_cons_zero, List.getD_cons_succ, List.idxOf?, List.findIdx?, List.findIdx?.go, slotsW, slotW, fitL, fit, disB, Nat.reduceLT, reduceIte, go_sem, reduceIte, reduceCtorEq, Nat.reduceAdd, Nat.reduceMul, Nat.reduceSub, Nat.reduceDiv, Nat.reduceMod, Nat.reduceLeDiff, Nat.reduceEqDiff, Nat.reduceBEq, Nat.reduceBNe, Int.reduceBEq, Int.reduceBNe, Int.reduceAdd, Int.reduceSub, Int.reduceMul, Int.reduceLE, Int.reduceLT, Int.reduceEq, Int.reduceNeg, Int.reduceToNat, Nat.reduceLT]
  all_goals
    refine CallC.os sm [] ?_
    rintro v ρ' ⟨⟨m2, rfl, hm2⟩, rfl⟩
    obtain rfl : m2 = true := hm2.2 hN
    simp only [updGiven, updNew, getR, muOf, nuOf, owned, isRo, List.range, List.range.loop, List.filter, SV.ren, CV.ren, CV.renL, SV.renL, Res.ren, List.length, List.getD_cons_zero, List.getD_cons_succ, List.idxOf?, List.findIdx?, List.findIdx?.go, slotsW, slotW, fitL, fit, disB, Nat.reduceLT, reduceIte, go_sem, reduceIte, reduceCtorEq, Nat.reduceAdd, Nat.reduceMul, Nat.reduceSub, Nat.reduceDiv, Nat.reduceMod, Nat.reduceLeDiff, Nat.reduceEqDiff, Nat.reduceBEq, Nat.reduceBNe, Int.reduceBEq, Int.reduceBNe, Int.reduceAdd, Int.reduceSub, Int.reduceMul, Int.reduceLE, Int.reduceLT, Int.reduceEq, Int.reduceNeg, Int.reduceToNat, Nat.reduceLT]
    refine CallC.os ss [] ?_
    rintro v ρ' ⟨⟨s1, rfl, hs1⟩, rfl⟩
    obtain rfl := Bool.eq_iff_iff.2 (hs1.trans hE)
    simp only [beq_self_eq_true, updGiven, updNew, getR, muOf, nuOf, owned, isRo, List.range, List.range.loop, List.filter, SV.ren, CV.ren, CV.renL, SV.renL, Res.ren, List.length, List.getD_cons_zero, List.getD_cons_succ, List.idxOf?, List.findIdx?, List.findIdx?.go, slotsW, slotW, fitL, fit, disB, Nat.reduceLT, reduceIte, go_sem, reduceIte, reduceCtorEq, Nat.reduceAdd, Nat.reduceMul, Nat.reduceSub, Nat.reduceDiv, Nat.reduceMod, Nat.reduceLeDiff, Nat.reduceEqDiff, Nat.reduceBEq, Nat.reduceBNe, Int.reduceBEq, Int.reduceBNe, Int.reduceAdd, Int.reduceSub, Int.reduceMul, Int.reduceLE, Int.reduceLT, Int.reduceEq, Int.reduceNeg, Int.reduceToNat, Nat.reduceLT]
    refine CallC.os hpe [] ?_
    rintro v ρ' ⟨rfl, rfl⟩
    simp only [updGiven, updNew, getR, muOf, nuOf, owned, isRo, List.range, List.range.loop, List.filter, SV.ren, CV.ren, CV.renL, SV.renL, Res.ren, List.length, List.getD_cons_zero, List.getD_cons_succ, List.idxOf?, List.findIdx?, List.findIdx?.go, slotsW, slotW, fitL, fit, disB, Nat.reduceLT, reduceIte, go_sem, reduceIte, reduceCtorEq, Nat.reduceAdd, Nat.reduceMul, Nat.reduceSub, Nat.reduceDiv, Nat.reduceMod, Nat.reduceLeDiff, Nat.reduceEqDiff, Nat.reduceBEq, Nat.reduceBNe, Int.reduceBEq, Int.reduceBNe, Int.reduceAdd, Int.reduceSub, Int.reduceMul, Int.reduceLE, Int.reduceLT, Int.reduceEq, Int.reduceNeg, Int.reduceToNat, Nat.reduceLT]
    refine ⟨fun j hj => ⟨_, rfl⟩, ?_⟩
    refine CallC.os sp [] ?_
    rintro v ρ' ⟨rfl, rfl⟩
    simp only [updGiven, updNew, getR, muOf, nuOf, owned, isRo, List.range, List.range.loop, List.filter, SV.ren, CV.ren, CV.renL, SV.renL, Res.ren, List.length, List.getD_cons_zero, List.getD_cons_succ, List.idxOf?, List.findIdx?, List.findIdx?.go, slotsW, slotW, fitL, fit, disB, Nat.reduceLT, reduceIte, go_sem, reduceIte, reduceCtorEq, Nat.reduceAdd, Nat.reduceMul, Nat.reduceSub, Nat.reduceDiv, Nat.reduceMod, Nat.reduceLeDiff, Nat.reduceEqDiff, Nat.reduceBEq, Nat.reduceBNe, Int.reduceBEq, Int.reduceBNe, Int.reduceAdd, Int.reduceSub, Int.reduceMul, Int.reduceLE, Int.reduceLT, Int.reduceEq, Int.reduceNeg, Int.reduceToNat, Nat.reduceLT]
    refine ⟨fun j hj => ⟨_, rfl⟩, ?_⟩
    try simp only [hD, beq_self_eq_true, go_sem, reduceIte, reduceCtorEq, Nat.reduceAdd, Nat.reduceMul, Nat.reduceSub, Nat.reduceDiv, Nat.reduceMod, Nat.reduceLeDiff, Nat.reduceEqDiff, Nat.reduceBEq, Nat.reduceBNe, Int.reduceBEq, Int.reduceBNe, Int.reduceAdd, Int.reduceSub, Int.reduceMul, Int.reduceLE, Int.reduceLT, Int.reduceEq, Int.reduceNeg, Int.reduceToNat, Nat.reduceLT]
    refine RetC.bk [] ⟨rfl, rfl⟩

theorem law_entryApart (svs : List SV) (hs : OkAll [entsh, .int .u8] svs) : FSpec Try.prog 7 svs [] tru := by
  obtain ⟨a, l, rfl, h1, hs⟩ := okAll_cons hs
  obtain ⟨b, l, rfl, h2, hs⟩ := okAll_cons hs
  obtain rfl := okAll_nil hs
  obtain ⟨e, hB, hS, s1⟩ := ok_ent h1
  obtain ⟨x, rfl, w2⟩ := ok_int h2
  exact (sp_lawApart e hB hS x (wf_u8 w2)).told ⟨s1, rfl, trivial⟩
end Go.Proofs.Ytbhefgajgdcajaa

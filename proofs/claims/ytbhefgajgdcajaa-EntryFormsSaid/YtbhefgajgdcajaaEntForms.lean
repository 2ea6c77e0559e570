import Derived.Test.YtbhefgajgdcajaaEntArgs
import Derived.Test.YtbhefgajgdcajaaSxShort
set_option linter.unusedVariables false
set_option linter.unusedSimpArgs false
/- Entries of noughts. -/
namespace Go.Proofs.Ytbhefgajgdcajaa
open Sx
set_option maxRecDepth 100000
theorem rep_getD {α : Type} (n : Nat) (d : α) (j : Nat) : (List.replicate n d).getD j d = d := by
  rw [List.getD_eq_getElem?_getD, List.getElem?_replicate]; split <;> rfl
abbrev zM (_ : Nat) : List CV := [iC 0, iC 0, iC 0, iC 0]
abbrev zL (_ : Nat) : List CV := [iC 0, iC 0, iC 0, bC false]
abbrev zD (_ : Nat) : List CV := [iC 0, iC 0]
abbrev zO (_ : Nat) : List CV := [iC 0, mvS [], iC 0]
theorem mvS_rep (n : Nat) : mvS (List.replicate n (0, 0, 0, 0)) = .rsl 4 n none zM := by
  unfold mvS mvC; simp only [List.length_replicate, rep_getD]
theorem lvS_rep (n : Nat) : lvS (List.replicate n (0, 0, 0, false)) = .rsl 4 n none zL := by
  unfold lvS lvC; simp only [List.length_replicate, rep_getD]
theorem dtS_rep (n : Nat) : dtS (List.replicate n (0, 0)) = .rsl 2 n none zD := by
  unfold dtS dtC; simp only [List.length_replicate, rep_getD]
theorem opS_rep (n : Nat) : opS (List.replicate n (0, 0, [])) = .rsl 3 n none zO := by
  unfold opS opC; simp only [List.length_replicate, rep_getD]
theorem lbC_rep (n : Nat) : lbC (List.replicate n 0) = .rsl 1 n none (byf fun _ => 0) := lbC_zeros n
/-- An entry of noughts. -/
abbrev repE (k : Int) (no nw m l y q : Nat) : Ent := ⟨k, 0, 0, 0, 0, 0, 0, 0, 0, 0, List.replicate no 0, List.replicate nw 0, List.replicate m (0, 0, 0, 0), List.replicate l (0, 0, 0, false), List.replicate y (0, 0), List.replicate q (0, 0, [])⟩
theorem repE_V (k : Int) (no nw m l y q : Nat) : (repE k no nw m l y q).V = .agg [iC k, iC 0, iC 0, iC 0, iC 0, iC 0, iC 0, iC 0, iC 0, iC 0, .rsl 1 no none (byf fun _ => 0), .rsl 1 nw none (byf fun _ => 0), .rsl 4 m none zM, .rsl 4 l none zL, .rsl 2 y none zD, .rsl 3 q none zO] := by
  unfold Ent.V Ent.cells
  simp only [mvS_rep, lvS_rep, dtS_rep, opS_rep, lbC_rep]
theorem fit0 (n : Nat) : fit n 0 := ⟨Int.le_refl 0, Int.pow_pos (by decide)⟩
theorem repE_may {k : Int} {no nw m l y q : Nat} (hk : 1 ≤ k ∧ k ≤ 10) (ho : no = 0 ∨ no = 26) (hw : nw = 0 ∨ nw = 26) (hm : m ≤ 40) (hl : l ≤ 40) (hy : y ≤ 40) (hq : q ≤ 40) : May (repE k no nw m l y q) := by
  refine ⟨hk, fit0 _, fit0 _, fit0 _, fit0 _, fit0 _, fit0 _, fit0 _, fit0 _, fit0 _, ?_, ?_, ⟨?_, ?_⟩, ⟨?_, ?_⟩, ⟨?_, ?_⟩, ⟨?_, ?_⟩⟩
  · unfold img; simp only [List.length_replicate]; exact ho
  · unfold img; simp only [List.length_replicate]; exact hw
  · simp only [List.length_replicate]; exact hm
  · intro x hx; rw [List.eq_of_mem_replicate hx]; exact ⟨⟨fit0 1, fit0 1⟩, fit0 1, fit0 1⟩
  · simp only [List.length_replicate]; exact hl
  · intro x hx; rw [List.eq_of_mem_replicate hx]; exact ⟨fit0 1, fit0 3, fit0 3⟩
  · simp only [List.length_replicate]; exact hy
  · intro x hx; rw [List.eq_of_mem_replicate hx]; exact ⟨fit0 1, fit0 3⟩
  · simp only [List.length_replicate]; exact hq
  · intro x hx; rw [List.eq_of_mem_replicate hx]; exact ⟨fit0 2, fit0 1, Nat.zero_le _, fun y hy => by cases hy⟩
theorem flat_rep {α : Type} (w : α → List Int) (B : Nat) (d : α) (h : (w d).length = B) : ∀ n : Nat, ((List.replicate n d).flatMap w).length = B * n
  | 0 => rfl
  | n + 1 => by rw [List.replicate_succ, List.flatMap_cons, List.length_append, flat_rep w B d h n, h, Nat.mul_succ, Nat.add_comm]
theorem repE_len (k : Int) (no nw m l y q : Nat) : (wrE (repE k no nw m l y q)).length = 21 + no + nw + 4 * m + 8 * l + 4 * y + 4 * q := by
  unfold wrE wrI wrS
  simp only [List.length_append, numL_len, List.length_replicate]
  rw [flat_rep wrM 4 _ rfl, flat_rep wrL 8 _ rfl, flat_rep wrD 4 _ rfl, flat_rep wrO 4 _ rfl]
  omega
theorem byts_rep (n : Nat) : byts (List.replicate n 0) := byts_zeros n
theorem repE_byts (k : Int) (no nw m l y q : Nat) : (repE k no nw m l y q).Byts := ⟨byts_rep _, byts_rep _⟩
theorem repE_fine (k : Int) {no nw m l y q : Nat} (hm : m ≤ 1000) (hl : l ≤ 1000) (hy : y ≤ 1000) (hq : q ≤ 1000) : (repE k no nw m l y q).Fine := by
  refine ⟨?_, ?_, ?_, ?_, fun x hx => ?_⟩
  · simp only [List.length_replicate]; omega
  · simp only [List.length_replicate]; omega
  · simp only [List.length_replicate]; omega
  · simp only [List.length_replicate]; omega
  · rw [List.eq_of_mem_replicate hx]; exact Nat.zero_le _
end Go.Proofs.Ytbhefgajgdcajaa

/- Which entries may be. -/
namespace Go.Proofs.Ytbhefgajgdcajaa
open Sx
attribute [local go_sem] wpC_skip wpC_reg wpC_draw wpC_seq wpC_block wpC_cond wpC_loop wpC_exit wpC_join joinK_n joinK_e joinK_r wpC_ret seqK_n seqK_e seqK_r blockK_n blockK_e blockK_r Fs_nil Fs_none Fs_some stepS_eq Fc_nil Fc_none Fc_some stepC_eq opFn ev cval lk need SV.nm enumR setS setR setRs cellsOf svOf rget spliceC rset src oint eqCells cvs fillC rows ints svDest keyOf2 ridC widens ibool icalc ibin List.replicate List.getD_cons_zero List.getD_cons_succ List.getD_nil List.set_cons_zero List.set_cons_succ List.map_cons List.map_nil List.foldl_cons List.foldl_nil List.length_cons List.length_nil List.drop_zero List.drop_succ_cons List.drop_nil List.take_succ_cons List.take_zero List.take_nil List.cons_append List.nil_append List.append_nil List.headD_cons List.flatten_cons List.flatten_nil Option.map_some Option.map_none Option.getD_none Option.getD_some true_and and_true Nat.zero_add Nat.add_zero appFn svRoom sameO beq_self_eq_true Nat.zero_mul Nat.mul_zero Nat.sub_zero Nat.zero_le Nat.le_refl and_self okB Bool.not_false Bool.true_or Bool.false_or Bool.not_true List.all_nil List.all_cons Int.toNat_zero Int.toNat_one CondC_true CondC_false beq_true beq_false opEn callEn skipEn slotsOf tmpsOf SOp.operands oo free disj List.contains_cons List.contains_nil Option.toList_some Option.toList_none Bool.and_true Bool.true_and Bool.or_false Bool.or_true Bool.and_self Bool.and_false Bool.false_and decide_true decide_false List.range'_succ List.range'_zero Int.toNat_natCast Int.natCast_nonneg Int.cast_ofNat_Int ne_eq not_false_eq_true updGiven updNew getR muOf nuOf owned isRo List.range.loop List.filter SV.ren CV.ren CV.renL SV.renL Res.ren List.length List.idxOf? List.findIdx? List.findIdx?.go slotsW slotW disB List.range
set_option maxRecDepth 100000
abbrev okE : Ent := { repE 10 26 0 40 40 40 40 with t := 255, u := 65535, h := 255, p := 16777215, n := 16777215, a := 255, b := 255 }
abbrev okC : List CV := [iC 10, iC 255, iC 65535, iC 255, iC 16777215, iC 16777215, iC 255, iC 255, iC 0, iC 0, .rsl 1 26 none (byf fun _ => 0), .val (.slice none 0 0), .rsl 4 40 none zM, .rsl 4 40 none zL, .rsl 2 40 none zD, .rsl 3 40 none zO]
abbrev nC : CV := .val (.slice none 0 0)
abbrev nE : List CV := [iC 0, iC 0, iC 0, iC 0, iC 0, iC 0, iC 0, iC 0, iC 0, iC 0, nC, nC, nC, nC, nC, nC]
def BE : Nat → Ent
  | 0 => { okE with k := 0 }
  | 1 => { okE with k := 11 }
  | 2 => { okE with t := 256 }
  | 3 => { okE with u := 65536 }
  | 4 => { okE with h := -1 }
  | 5 => { okE with p := 16777216 }
  | 6 => { okE with n := -1 }
  | 7 => { okE with b := 256 }
  | 8 => { okE with o := List.replicate 3 0 }
  | 9 => { okE with m := List.replicate 41 (0, 0, 0, 0) }
  | 10 => { okE with l := [(0, -1, 0, false)] }
  | 11 => { okE with y := [(256, 0)] }
  | 12 => { okE with q := [(0, 256, [])] }
  | 13 => { okE with q := [(0, 0, [(0, 0, -1, 0)])] }
  | _ => okE
theorem be_not {i : Nat} (h : i < 14) : ¬ May (BE i) := fun hm => by
  have : i = 0 ∨ i = 1 ∨ i = 2 ∨ i = 3 ∨ i = 4 ∨ i = 5 ∨ i = 6 ∨ i = 7 ∨ i = 8 ∨ i = 9 ∨ i = 10 ∨ i = 11 ∨ i = 12 ∨ i = 13 := by omega
  rcases this with rfl | rfl | rfl | rfl | rfl | rfl | rfl | rfl | rfl | rfl | rfl | rfl | rfl | rfl
  · exact absurd hm.k (by decide)
  · exact absurd hm.k (by decide)
  · exact absurd hm.t (by decide)
  · exact absurd hm.u (by decide)
  · exact absurd hm.h (by decide)
  · exact absurd hm.p (by decide)
  · exact absurd hm.n (by decide)
  · exact absurd hm.b (by decide)
  · exact absurd hm.o (by decide)
  · exact absurd hm.m.1 (by decide)
  · exact absurd (hm.l.2 (0, -1, 0, false) (by decide)) (by decide)
  · exact absurd (hm.y.2 (256, 0) (by decide)) (by decide)
  · exact absurd (hm.q.2 (0, 256, []) (List.mem_singleton.2 rfl)).2.1 (by decide)
  · exact absurd ((hm.q.2 (0, 0, [(0, 0, -1, 0)]) (List.mem_singleton.2 rfl)).2.2.2 (0, 0, -1, 0) (List.mem_singleton.2 rfl)) (by decide)
theorem okE_V : okE.V = .agg [iC 10, iC 255, iC 65535, iC 255, iC 16777215, iC 16777215, iC 255, iC 255, iC 0, iC 0, .rsl 1 26 none (byf fun _ => 0), .rsl 1 0 none (byf fun _ => 0), .rsl 4 40 none zM, .rsl 4 40 none zL, .rsl 2 40 none zD, .rsl 3 40 none zO] := by
  unfold Ent.V Ent.cells
  simp only [mvS_rep, lvS_rep, dtS_rep, opS_rep, lbC_rep]
theorem okE_may : May okE := by
  have h := repE_may (k := 10) (no := 26) (nw := 0) (m := 40) (l := 40) (y := 40) (q := 40) (by decide) (by decide) (by decide) (by decide) (by decide) (by decide) (by decide)
  exact ⟨h.k, by decide, by decide, by decide, by decide, by decide, by decide, by decide, h.c, h.d, h.o, h.w, h.m, h.l, h.y, h.q⟩
theorem okE_len : (wrE okE).length = 847 := by
  unfold wrE wrI wrS
  simp only [List.length_append, numL_len, List.length_replicate]
  rw [flat_rep wrM 4 _ rfl, flat_rep wrL 8 _ rfl, flat_rep wrD 4 _ rfl, flat_rep wrO 4 _ rfl]
def E1 : Ent := ⟨1, 2, 0, 0, 3, 4, 5, 6, 7, 0, [], [], [], [], [], []⟩
theorem E1_may : May E1 := ⟨by decide, by decide, by decide, by decide, by decide, by decide, by decide, by decide, by decide, by decide, by decide, by decide, by decide, by decide, by decide, by decide⟩
theorem E1_wr : wrE E1 = [1, 2, 0, 0, 0, 0, 0, 3, 0, 0, 4, 5, 6, 7, 0, 0, 0, 0, 0, 0, 0] := by decide
theorem E1_V : E1.V = .agg [iC 1, iC 2, iC 0, iC 0, iC 3, iC 4, iC 5, iC 6, iC 7, iC 0, lbC [], lbC [], mvS [], lvS [], dtS [], opS []] := rfl
theorem str_eq : ((bstr 21 (byf (lf [1, 2, 0, 0, 0, 0, 0, 3, 0, 0, 4, 5, 6, 7, 0, 0, 0, 0, 0, 0, 0]))).toList == (({ data := #[1, 2, 0, 0, 0, 0, 0, 3, 0, 0, 4, 5, 6, 7, 0] } : ByteArray) ++ bstr 6 fun _ => [CV.val (.int .u8 0)]).toList) = true := by
  rw [toList_beq, decide_eq_true_eq]
  rfl
set_option maxHeartbeats 40000000 in
theorem sp_lawForms : FSpec Try.prog 6 [] [] (fun v ρ' => v = bV true ∧ ρ' = []) := by
  refine FSpec.of follow Try.func6 c6 (Nat.le_of_ble_eq_true rfl) fun hf => ?_
  simp only [sc6, go_sem, reduceIte, reduceCtorEq, Nat.reduceAdd, Nat.reduceMul, Nat.reduceSub, Nat.reduceDiv, Nat.reduceMod, Nat.reduceLeDiff, Nat.reduceEqDiff, Nat.reduceBEq, Nat.reduceBNe, Int.reduceBEq, Int.reduceBNe, Int.reduceAdd, Int.reduceSub, Int.reduceMul, Int.reduceLE, Int.reduceLT, Int.reduceEq, Int.reduceNeg, Int.reduceToNat, Nat.reduceLT]
  refine CallC.os sp_begun [] ?_
  rintro v ρ' ⟨rfl, rfl⟩
  simp only [go_sem, reduceIte, reduceCtorEq, Nat.reduceAdd, Nat.reduceMul, Nat.reduceSub, Nat.reduceDiv, Nat.reduceMod, Nat.reduceLeDiff, Nat.reduceEqDiff, Nat.reduceBEq, Nat.reduceBNe, Int.reduceBEq, Int.reduceBNe, Int.reduceAdd, Int.reduceSub, Int.reduceMul, Int.reduceLE, Int.reduceLT, Int.reduceEq, Int.reduceNeg, Int.reduceToNat, Nat.reduceLT]
  repeat (refine And.intro (by first | omega | (unfold inI64; omega) | (simp only [u8min, u8max, u16min, u16max, u32min, u32max]; omega)) ?_)
  refine LoopC.inv follow (fun i : Nat => ⟨mkSl 120 [(1, .cv (.ptr 0 0 0 0)), (2, .cv (.slc 1 16 0 14 none)), (3, iV i)], [(0, .cells okC), (1, .recs 16 14 (fun j => if j < i then okC else nE))], 2⟩)
    (fun i => i ≤ 14) (fun i => 14 - i) 0 (Nat.zero_le _) ?_ ?_
  · exact Weak.fz [(28, .frz 1 26 (byf fun _ => 0)), (29, .frz 4 40 zM), (30, .frz 4 40 zL), (31, .frz 2 40 zD), (32, .frz 3 40 zO)] ⟨⟨rfl, Nat.le_refl _, .inl fun j hj => rfl⟩, ⟨rfl, Nat.le_refl _, .inl fun j hj => rfl⟩, ⟨rfl, Nat.le_refl _, .inl fun j hj => rfl⟩, ⟨rfl, Nat.le_refl _, .inl fun j hj => rfl⟩, ⟨rfl, Nat.le_refl _, .inr fun j hj => by repeat' (first | exact trivial | exact rfl | exact Or.inl rfl | exact slotW_ren _ | exact cvW_ren _ | exact cvsW_ren _ | exact Nat.le_refl _ | exact slotW_frz rfl (Nat.le_refl _) | exact slotW_nil (Nat.le_of_ble_eq_true rfl) | exact cvW_frz rfl (Nat.le_refl _) | exact cvW_nil (Nat.le_of_ble_eq_true rfl) | exact Or.inl fun _ _ => rfl | exact fun _ _ => rfl | exact Nat.le_of_ble_eq_true rfl | refine ⟨Or.inl ⟨Nat.le_of_ble_eq_true rfl, ?_⟩, ?_⟩ | refine ⟨Or.inr ⟨Nat.le_of_ble_eq_true rfl, Nat.le_of_ble_eq_true rfl, Nat.le_of_ble_eq_true rfl⟩, ?_⟩ | exact Or.inr ⟨rfl, rfl, rfl, rfl, Nat.le_of_ble_eq_true rfl, Nat.le_of_ble_eq_true rfl, Nat.le_of_ble_eq_true rfl⟩ | refine ⟨?_, ?_⟩)⟩, trivial⟩ [34, 108] 0 ⟨rfl, rfl, rfl, by repeat' (first | exact trivial | exact rfl | exact Or.inl rfl | exact slotW_ren _ | exact cvW_ren _ | exact cvsW_ren _ | exact Nat.le_refl _ | exact slotW_frz rfl (Nat.le_refl _) | exact slotW_nil (Nat.le_of_ble_eq_true rfl) | exact cvW_frz rfl (Nat.le_refl _) | exact cvW_nil (Nat.le_of_ble_eq_true rfl) | exact Or.inl fun _ _ => rfl | exact fun _ _ => rfl | exact Nat.le_of_ble_eq_true rfl | refine ⟨Or.inl ⟨Nat.le_of_ble_eq_true rfl, ?_⟩, ?_⟩ | refine ⟨Or.inr ⟨Nat.le_of_ble_eq_true rfl, Nat.le_of_ble_eq_true rfl, Nat.le_of_ble_eq_true rfl⟩, ?_⟩ | exact Or.inr ⟨rfl, rfl, rfl, rfl, Nat.le_of_ble_eq_true rfl, Nat.le_of_ble_eq_true rfl, Nat.le_of_ble_eq_true rfl⟩ | refine ⟨?_, ?_⟩), by repeat' (first | exact trivial | exact rfl | exact Or.inl rfl | exact slotW_ren _ | exact cvW_ren _ | exact cvsW_ren _ | exact Nat.le_refl _ | exact slotW_frz rfl (Nat.le_refl _) | exact slotW_nil (Nat.le_of_ble_eq_true rfl) | exact cvW_frz rfl (Nat.le_refl _) | exact cvW_nil (Nat.le_of_ble_eq_true rfl) | exact Or.inl fun _ _ => rfl | exact fun _ _ => rfl | exact Nat.le_of_ble_eq_true rfl | refine ⟨Or.inl ⟨Nat.le_of_ble_eq_true rfl, ?_⟩, ?_⟩ | refine ⟨Or.inr ⟨Nat.le_of_ble_eq_true rfl, Nat.le_of_ble_eq_true rfl, Nat.le_of_ble_eq_true rfl⟩, ?_⟩ | exact Or.inr ⟨rfl, rfl, rfl, rfl, Nat.le_of_ble_eq_true rfl, Nat.le_of_ble_eq_true rfl, Nat.le_of_ble_eq_true rfl⟩ | refine ⟨?_, ?_⟩)⟩
  intro i hi
  simp only [mkSl, go_sem, reduceIte, reduceCtorEq, Nat.reduceAdd, Nat.reduceMul, Nat.reduceSub, Nat.reduceDiv, Nat.reduceMod, Nat.reduceLeDiff, Nat.reduceEqDiff, Nat.reduceBEq, Nat.reduceBNe, Int.reduceBEq, Int.reduceBNe, Int.reduceAdd, Int.reduceSub, Int.reduceMul, Int.reduceLE, Int.reduceLT, Int.reduceEq, Int.reduceNeg, Int.reduceToNat, Nat.reduceLT]
  refine CondC.of (fun hc => ?_) (fun hc => ?_)
  · simp only [decide_eq_true_eq] at hc
    simp only [go_sem, reduceIte, reduceCtorEq, Nat.reduceAdd, Nat.reduceMul, Nat.reduceSub, Nat.reduceDiv, Nat.reduceMod, Nat.reduceLeDiff, Nat.reduceEqDiff, Nat.reduceBEq, Nat.reduceBNe, Int.reduceBEq, Int.reduceBNe, Int.reduceAdd, Int.reduceSub, Int.reduceMul, Int.reduceLE, Int.reduceLT, Int.reduceEq, Int.reduceNeg, Int.reduceToNat, Nat.reduceLT]
    repeat (refine And.intro (by first | omega | (unfold inI64; omega) | (simp only [u8min, u8max, u16min, u16max, u32min, u32max]; omega)) ?_)
    refine ⟨i + 1, by omega, by omega, Weak.by [0, 1] 0 ⟨rfl, rfl, rfl, by repeat' (first | exact trivial | exact rfl | exact Or.inl rfl | exact slotW_ren _ | exact cvW_ren _ | exact cvsW_ren _ | exact Nat.le_refl _ | exact slotW_frz rfl (Nat.le_refl _) | exact slotW_nil (Nat.le_of_ble_eq_true rfl) | exact cvW_frz rfl (Nat.le_refl _) | exact cvW_nil (Nat.le_of_ble_eq_true rfl) | exact Or.inl fun _ _ => rfl | exact fun _ _ => rfl | exact Nat.le_of_ble_eq_true rfl | refine ⟨Or.inl ⟨Nat.le_of_ble_eq_true rfl, ?_⟩, ?_⟩ | refine ⟨Or.inr ⟨Nat.le_of_ble_eq_true rfl, Nat.le_of_ble_eq_true rfl, Nat.le_of_ble_eq_true rfl⟩, ?_⟩ | exact Or.inr ⟨rfl, rfl, rfl, rfl, Nat.le_of_ble_eq_true rfl, Nat.le_of_ble_eq_true rfl, Nat.le_of_ble_eq_true rfl⟩ | refine ⟨?_, ?_⟩), ?_⟩⟩
    refine ⟨.inl ⟨Nat.le_of_ble_eq_true rfl, by repeat' (first | exact trivial | exact rfl | exact Or.inl rfl | exact slotW_ren _ | exact cvW_ren _ | exact cvsW_ren _ | exact Nat.le_refl _ | exact slotW_frz rfl (Nat.le_refl _) | exact slotW_nil (Nat.le_of_ble_eq_true rfl) | exact cvW_frz rfl (Nat.le_refl _) | exact cvW_nil (Nat.le_of_ble_eq_true rfl) | exact Or.inl fun _ _ => rfl | exact fun _ _ => rfl | exact Nat.le_of_ble_eq_true rfl | refine ⟨Or.inl ⟨Nat.le_of_ble_eq_true rfl, ?_⟩, ?_⟩ | refine ⟨Or.inr ⟨Nat.le_of_ble_eq_true rfl, Nat.le_of_ble_eq_true rfl, Nat.le_of_ble_eq_true rfl⟩, ?_⟩ | exact Or.inr ⟨rfl, rfl, rfl, rfl, Nat.le_of_ble_eq_true rfl, Nat.le_of_ble_eq_true rfl, Nat.le_of_ble_eq_true rfl⟩ | refine ⟨?_, ?_⟩)⟩, .inl ⟨Nat.le_of_ble_eq_true rfl, rfl, Nat.le_refl _, .inl fun j hj => ?_⟩, trivial⟩
    dsimp only
    (repeat' split) <;> first | rfl | (exfalso; omega)
  · simp only [decide_eq_false_iff_not] at hc
    obtain rfl : i = 14 := by omega
    have h1 := sp_may okE
    have h2 := sp_put okE
    have h3 := sp_put E1
    rw [putE_may okE_may] at h2
    rw [putE_may E1_may, E1_wr, E1_V] at h3
    rw [okE_V] at h1 h2
    have hlen : ((wrE okE).length : Int) = 847 := by rw [okE_len]; rfl
    obtain ⟨W, hW⟩ : ∃ W, wrE okE = W := ⟨_, rfl⟩
    rw [hW] at h2 hlen
    have e847 : ((W.length : Int) == 847) = true := by rw [hlen]; rfl
    simp only [go_sem, reduceIte, reduceCtorEq, Nat.reduceAdd, Nat.reduceMul, Nat.reduceSub, Nat.reduceDiv, Nat.reduceMod, Nat.reduceLeDiff, Nat.reduceEqDiff, Nat.reduceBEq, Nat.reduceBNe, Int.reduceBEq, Int.reduceBNe, Int.reduceAdd, Int.reduceSub, Int.reduceMul, Int.reduceLE, Int.reduceLT, Int.reduceEq, Int.reduceNeg, Int.reduceToNat, Nat.reduceLT]
    repeat (refine And.intro (by first | omega | (unfold inI64; omega) | (simp only [u8min, u8max, u16min, u16max, u32min, u32max]; omega)) ?_)
    refine LoopC.inv follow (fun i : Nat => ⟨mkSl 120 [(1, .cv (.ptr 0 0 0 0)), (2, .cv (.slc 1 16 0 14 none)), (4, iV i)], [(0, .cells okC), (1, .recs 16 14 (fun j => (BE j).cells))], 2⟩)
      (fun i => i ≤ 14) (fun i => 14 - i) 0 (Nat.zero_le _) ?_ ?_
    · refine Weak.fz [(336, .frz 1 3 (byf fun _ => 0)), (381, .frz 4 41 zM), (427, .frz 4 1 (lvC [(0, -1, 0, false)])), (481, .frz 2 1 (dtC [(256, 0)])), (535, .frz 3 1 (opC [(0, 256, [])])), (590, .frz 4 1 (mvC [(0, 0, -1, 0)])), (592, .frz 3 1 (opC [(0, 0, [(0, 0, -1, 0)])]))]
        ⟨⟨rfl, Nat.le_refl _, .inl fun j hj => rfl⟩, ⟨rfl, Nat.le_refl _, .inl fun j hj => rfl⟩, ⟨Nat.le_of_ble_eq_true rfl, Nat.le_refl _, .inl fun j hj => ?_⟩, ⟨Nat.le_of_ble_eq_true rfl, Nat.le_refl _, .inl fun j hj => ?_⟩, ⟨Nat.le_of_ble_eq_true rfl, Nat.le_refl _, .inr fun j hj => ?_⟩, ⟨Nat.le_of_ble_eq_true rfl, Nat.le_refl _, .inl fun j hj => ?_⟩, ⟨Nat.le_of_ble_eq_true rfl, Nat.le_refl _, .inr fun j hj => ?_⟩, trivial⟩ [0, 1] 0 ⟨rfl, rfl, rfl, by repeat' (first | exact trivial | exact rfl | exact Or.inl rfl | exact slotW_ren _ | exact cvW_ren _ | exact cvsW_ren _ | exact Nat.le_refl _ | exact slotW_frz rfl (Nat.le_refl _) | exact slotW_nil (Nat.le_of_ble_eq_true rfl) | exact cvW_frz rfl (Nat.le_refl _) | exact cvW_nil (Nat.le_of_ble_eq_true rfl) | exact Or.inl fun _ _ => rfl | exact fun _ _ => rfl | exact Nat.le_of_ble_eq_true rfl | refine ⟨Or.inl ⟨Nat.le_of_ble_eq_true rfl, ?_⟩, ?_⟩ | refine ⟨Or.inr ⟨Nat.le_of_ble_eq_true rfl, Nat.le_of_ble_eq_true rfl, Nat.le_of_ble_eq_true rfl⟩, ?_⟩ | exact Or.inr ⟨rfl, rfl, rfl, rfl, Nat.le_of_ble_eq_true rfl, Nat.le_of_ble_eq_true rfl, Nat.le_of_ble_eq_true rfl⟩ | refine ⟨?_, ?_⟩), ⟨.inl ⟨Nat.le_of_ble_eq_true rfl, by repeat' (first | exact trivial | exact rfl | exact Or.inl rfl | exact slotW_ren _ | exact cvW_ren _ | exact cvsW_ren _ | exact Nat.le_refl _ | exact slotW_frz rfl (Nat.le_refl _) | exact slotW_nil (Nat.le_of_ble_eq_true rfl) | exact cvW_frz rfl (Nat.le_refl _) | exact cvW_nil (Nat.le_of_ble_eq_true rfl) | exact Or.inl fun _ _ => rfl | exact fun _ _ => rfl | exact Nat.le_of_ble_eq_true rfl | refine ⟨Or.inl ⟨Nat.le_of_ble_eq_true rfl, ?_⟩, ?_⟩ | refine ⟨Or.inr ⟨Nat.le_of_ble_eq_true rfl, Nat.le_of_ble_eq_true rfl, Nat.le_of_ble_eq_true rfl⟩, ?_⟩ | exact Or.inr ⟨rfl, rfl, rfl, rfl, Nat.le_of_ble_eq_true rfl, Nat.le_of_ble_eq_true rfl, Nat.le_of_ble_eq_true rfl⟩ | refine ⟨?_, ?_⟩)⟩, .inl ⟨Nat.le_of_ble_eq_true rfl, rfl, Nat.le_refl _, .inr fun j hj => ?_⟩, trivial⟩⟩
      · obtain rfl : j = 0 := by omega
        rfl
      · obtain rfl : j = 0 := by omega
        rfl
      · obtain rfl : j = 0 := by omega
        show cvsW _ _ _ _ [iC 0, mvS [], iC 256] [iC 0, nC, iC 256]
        repeat' (first | exact trivial | exact rfl | exact Or.inl rfl | exact slotW_ren _ | exact cvW_ren _ | exact cvsW_ren _ | exact Nat.le_refl _ | exact slotW_frz rfl (Nat.le_refl _) | exact slotW_nil (Nat.le_of_ble_eq_true rfl) | exact cvW_frz rfl (Nat.le_refl _) | exact cvW_nil (Nat.le_of_ble_eq_true rfl) | exact Or.inl fun _ _ => rfl | exact fun _ _ => rfl | exact Nat.le_of_ble_eq_true rfl | refine ⟨Or.inl ⟨Nat.le_of_ble_eq_true rfl, ?_⟩, ?_⟩ | refine ⟨Or.inr ⟨Nat.le_of_ble_eq_true rfl, Nat.le_of_ble_eq_true rfl, Nat.le_of_ble_eq_true rfl⟩, ?_⟩ | exact Or.inr ⟨rfl, rfl, rfl, rfl, Nat.le_of_ble_eq_true rfl, Nat.le_of_ble_eq_true rfl, Nat.le_of_ble_eq_true rfl⟩ | refine ⟨?_, ?_⟩)
      · obtain rfl : j = 0 := by omega
        rfl
      · obtain rfl : j = 0 := by omega
        show cvsW _ _ _ _ [iC 0, mvS [(0, 0, -1, 0)], iC 0] [iC 0, .slc 590 4 0 1 none, iC 0]
        repeat' (first | exact trivial | exact rfl | exact Or.inl rfl | exact slotW_ren _ | exact cvW_ren _ | exact cvsW_ren _ | exact Nat.le_refl _ | exact slotW_frz rfl (Nat.le_refl _) | exact slotW_nil (Nat.le_of_ble_eq_true rfl) | exact cvW_frz rfl (Nat.le_refl _) | exact cvW_nil (Nat.le_of_ble_eq_true rfl) | exact Or.inl fun _ _ => rfl | exact fun _ _ => rfl | exact Nat.le_of_ble_eq_true rfl | refine ⟨Or.inl ⟨Nat.le_of_ble_eq_true rfl, ?_⟩, ?_⟩ | refine ⟨Or.inr ⟨Nat.le_of_ble_eq_true rfl, Nat.le_of_ble_eq_true rfl, Nat.le_of_ble_eq_true rfl⟩, ?_⟩ | exact Or.inr ⟨rfl, rfl, rfl, rfl, Nat.le_of_ble_eq_true rfl, Nat.le_of_ble_eq_true rfl, Nat.le_of_ble_eq_true rfl⟩ | refine ⟨?_, ?_⟩)
      · have : j = 0 ∨ j = 1 ∨ j = 2 ∨ j = 3 ∨ j = 4 ∨ j = 5 ∨ j = 6 ∨ j = 7 ∨ j = 8 ∨ j = 9 ∨ j = 10 ∨ j = 11 ∨ j = 12 ∨ j = 13 := by omega
        rcases this with rfl | rfl | rfl | rfl | rfl | rfl | rfl | rfl | rfl | rfl | rfl | rfl | rfl | rfl
        all_goals
          simp only [BE, Ent.cells, mvS_rep, lvS_rep, dtS_rep, opS_rep, lbC_rep, Nat.reduceEqDiff, reduceIte]
          repeat' (first | exact trivial | exact rfl | exact Or.inl rfl | exact slotW_ren _ | exact cvW_ren _ | exact cvsW_ren _ | exact Nat.le_refl _ | exact slotW_frz rfl (Nat.le_refl _) | exact slotW_nil (Nat.le_of_ble_eq_true rfl) | exact cvW_frz rfl (Nat.le_refl _) | exact cvW_nil (Nat.le_of_ble_eq_true rfl) | exact Or.inl fun _ _ => rfl | exact fun _ _ => rfl | exact Nat.le_of_ble_eq_true rfl | refine ⟨Or.inl ⟨Nat.le_of_ble_eq_true rfl, ?_⟩, ?_⟩ | refine ⟨Or.inr ⟨Nat.le_of_ble_eq_true rfl, Nat.le_of_ble_eq_true rfl, Nat.le_of_ble_eq_true rfl⟩, ?_⟩ | exact Or.inr ⟨rfl, rfl, rfl, rfl, Nat.le_of_ble_eq_true rfl, Nat.le_of_ble_eq_true rfl, Nat.le_of_ble_eq_true rfl⟩ | refine ⟨?_, ?_⟩)
    intro i hi
    simp only [mkSl, Ent.cells, go_sem, reduceIte, reduceCtorEq, Nat.reduceAdd, Nat.reduceMul, Nat.reduceSub, Nat.reduceDiv, Nat.reduceMod, Nat.reduceLeDiff, Nat.reduceEqDiff, Nat.reduceBEq, Nat.reduceBNe, Int.reduceBEq, Int.reduceBNe, Int.reduceAdd, Int.reduceSub, Int.reduceMul, Int.reduceLE, Int.reduceLT, Int.reduceEq, Int.reduceNeg, Int.reduceToNat, Nat.reduceLT]
    refine CondC.of (fun hc => ?_) (fun hc => ?_)
    · simp only [decide_eq_true_eq] at hc
      have hb := be_not (i := i) (by omega)
      have g1 := sp_may (BE i)
      have g2 := sp_put (BE i)
      rw [putE_not hb] at g2
      simp only [go_sem, reduceIte, reduceCtorEq, Nat.reduceAdd, Nat.reduceMul, Nat.reduceSub, Nat.reduceDiv, Nat.reduceMod, Nat.reduceLeDiff, Nat.reduceEqDiff, Nat.reduceBEq, Nat.reduceBNe, Int.reduceBEq, Int.reduceBNe, Int.reduceAdd, Int.reduceSub, Int.reduceMul, Int.reduceLE, Int.reduceLT, Int.reduceEq, Int.reduceNeg, Int.reduceToNat, Nat.reduceLT]
      repeat (refine And.intro (by first | omega | (unfold inI64; omega) | (simp only [u8min, u8max, u16min, u16max, u32min, u32max]; omega)) ?_)
      refine CallC.os g1 [] ?_
      rintro v ρ' ⟨⟨m1, rfl, hm1⟩, rfl⟩
      obtain rfl : m1 = false := by cases m1; rfl; exact absurd (hm1.1 rfl) hb
      simp only [go_sem, reduceIte, reduceCtorEq, Nat.reduceAdd, Nat.reduceMul, Nat.reduceSub, Nat.reduceDiv, Nat.reduceMod, Nat.reduceLeDiff, Nat.reduceEqDiff, Nat.reduceBEq, Nat.reduceBNe, Int.reduceBEq, Int.reduceBNe, Int.reduceAdd, Int.reduceSub, Int.reduceMul, Int.reduceLE, Int.reduceLT, Int.reduceEq, Int.reduceNeg, Int.reduceToNat, Nat.reduceLT]
      repeat (refine And.intro (by first | omega | (unfold inI64; omega) | (simp only [u8min, u8max, u16min, u16max, u32min, u32max]; omega)) ?_)
      refine CallC.os g2 [] ?_
      rintro v ρ' ⟨rfl, rfl⟩
      simp only [go_sem, reduceIte, reduceCtorEq, Nat.reduceAdd, Nat.reduceMul, Nat.reduceSub, Nat.reduceDiv, Nat.reduceMod, Nat.reduceLeDiff, Nat.reduceEqDiff, Nat.reduceBEq, Nat.reduceBNe, Int.reduceBEq, Int.reduceBNe, Int.reduceAdd, Int.reduceSub, Int.reduceMul, Int.reduceLE, Int.reduceLT, Int.reduceEq, Int.reduceNeg, Int.reduceToNat, Nat.reduceLT]
      repeat (refine And.intro (by first | omega | (unfold inI64; omega) | (simp only [u8min, u8max, u16min, u16max, u32min, u32max]; omega)) ?_)
      exact ⟨i + 1, by omega, by omega, Weak.b [0, 1] 0⟩
    · simp only [decide_eq_false_iff_not] at hc
      simp only [go_sem, reduceIte, reduceCtorEq, Nat.reduceAdd, Nat.reduceMul, Nat.reduceSub, Nat.reduceDiv, Nat.reduceMod, Nat.reduceLeDiff, Nat.reduceEqDiff, Nat.reduceBEq, Nat.reduceBNe, Int.reduceBEq, Int.reduceBNe, Int.reduceAdd, Int.reduceSub, Int.reduceMul, Int.reduceLE, Int.reduceLT, Int.reduceEq, Int.reduceNeg, Int.reduceToNat, Nat.reduceLT]
      refine CallC.os h1 [] ?_
      rintro v ρ' ⟨⟨m1, rfl, hm1⟩, rfl⟩
      obtain rfl : m1 = true := hm1.2 okE_may
      simp only [go_sem, reduceIte, reduceCtorEq, Nat.reduceAdd, Nat.reduceMul, Nat.reduceSub, Nat.reduceDiv, Nat.reduceMod, Nat.reduceLeDiff, Nat.reduceEqDiff, Nat.reduceBEq, Nat.reduceBNe, Int.reduceBEq, Int.reduceBNe, Int.reduceAdd, Int.reduceSub, Int.reduceMul, Int.reduceLE, Int.reduceLT, Int.reduceEq, Int.reduceNeg, Int.reduceToNat, Nat.reduceLT]
      refine CallC.os h2 [] ?_
      rintro v ρ' ⟨rfl, rfl⟩
      simp only [e847, go_sem, reduceIte, reduceCtorEq, Nat.reduceAdd, Nat.reduceMul, Nat.reduceSub, Nat.reduceDiv, Nat.reduceMod, Nat.reduceLeDiff, Nat.reduceEqDiff, Nat.reduceBEq, Nat.reduceBNe, Int.reduceBEq, Int.reduceBNe, Int.reduceAdd, Int.reduceSub, Int.reduceMul, Int.reduceLE, Int.reduceLT, Int.reduceEq, Int.reduceNeg, Int.reduceToNat, Nat.reduceLT]
      repeat (refine And.intro (by first | omega | (unfold inI64; omega) | (simp only [u8min, u8max, u16min, u16max, u32min, u32max]; omega)) ?_)
      refine ⟨fun j hj => ⟨_, rfl⟩, by rw [bstr_size]; decide, ?_⟩
      refine CallC.os h3 [] ?_
      rintro v ρ' ⟨rfl, rfl⟩
      simp only [go_sem, reduceIte, reduceCtorEq, Nat.reduceAdd, Nat.reduceMul, Nat.reduceSub, Nat.reduceDiv, Nat.reduceMod, Nat.reduceLeDiff, Nat.reduceEqDiff, Nat.reduceBEq, Nat.reduceBNe, Int.reduceBEq, Int.reduceBNe, Int.reduceAdd, Int.reduceSub, Int.reduceMul, Int.reduceLE, Int.reduceLT, Int.reduceEq, Int.reduceNeg, Int.reduceToNat, Nat.reduceLT]
      refine ⟨fun j hj => ⟨_, rfl⟩, ?_⟩
      simp only [str_eq]
      refine RetC.bk [] ⟨rfl, rfl⟩
theorem law_entryForms (svs : List SV) (hs : OkAll [] svs) : FSpec Try.prog 6 svs [] tru := by
  obtain rfl := okAll_nil hs
  exact sp_lawForms.told trivial
end Go.Proofs.Ytbhefgajgdcajaa

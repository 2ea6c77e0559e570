/- Which entries may be: numbers, places, moves, lists. -/
import Derived.Test.YtbhefgajgdcajaaSxShort
import Derived.Test.YtbhefgajgdcajaaEntWr3
set_option linter.unusedVariables false
set_option linter.unusedSimpArgs false
namespace Go.Proofs.Ytbhefgajgdcajaa
open Sx
attribute [local go_sem] wpC_skip wpC_reg wpC_draw wpC_seq wpC_block wpC_cond wpC_loop wpC_exit wpC_join joinK_n joinK_e joinK_r wpC_ret seqK_n seqK_e seqK_r blockK_n blockK_e blockK_r Fs_nil Fs_none Fs_some stepS_eq Fc_nil Fc_none Fc_some stepC_eq opFn ev cval lk need SV.nm enumR setS setR setRs cellsOf svOf rget spliceC rset src oint eqCells cvs fillC rows ints svDest keyOf2 ridC widens ibool icalc ibin List.replicate List.getD_cons_zero List.getD_cons_succ List.getD_nil List.set_cons_zero List.set_cons_succ List.map_cons List.map_nil List.foldl_cons List.foldl_nil List.length_cons List.length_nil List.drop_zero List.drop_succ_cons List.drop_nil List.take_succ_cons List.take_zero List.take_nil List.cons_append List.nil_append List.append_nil List.headD_cons List.flatten_cons List.flatten_nil Option.map_some Option.map_none Option.getD_none Option.getD_some true_and and_true Nat.zero_add Nat.add_zero appFn svRoom sameO beq_self_eq_true Nat.zero_mul Nat.mul_zero Nat.sub_zero Nat.zero_le Nat.le_refl and_self okB Bool.not_false Bool.true_or Bool.false_or Bool.not_true List.all_nil List.all_cons Int.toNat_zero Int.toNat_one CondC_true CondC_false beq_true beq_false opEn callEn skipEn slotsOf tmpsOf SOp.operands oo free disj List.contains_cons List.contains_nil Option.toList_some Option.toList_none Bool.and_true Bool.true_and Bool.or_false Bool.or_true Bool.and_self Bool.and_false Bool.false_and decide_true decide_false List.range'_succ List.range'_zero Int.toNat_natCast Int.natCast_nonneg Int.cast_ofNat_Int ne_eq not_false_eq_true updGiven updNew getR muOf nuOf owned isRo List.range.loop List.filter SV.ren CV.ren CV.renL SV.renL Res.ren List.length List.idxOf? List.findIdx? List.findIdx?.go slotsW slotW disB List.range
set_option maxRecDepth 100000
theorem shr_fit {n : Nat} (hn : n ≤ 3) {x : Int} (h0 : 0 ≤ x) : (x.fdiv (2 ^ min (8 * (n : Int)).toNat IntKind.i64.bits) != 0) = !decide (fit n x) := by
  have e : x.fdiv (2 ^ min (8 * (n : Int)).toNat IntKind.i64.bits) = x / 256 ^ n := by
    rw [show IntKind.i64.bits = 64 from rfl]
    have h : n = 0 ∨ n = 1 ∨ n = 2 ∨ n = 3 := by omega
    rcases h with rfl | rfl | rfl | rfl
    · rw [show min (8 * ((0 : Nat) : Int)).toNat 64 = 0 by decide]; simp
    · rw [show min (8 * ((1 : Nat) : Int)).toNat 64 = 8 by decide, Int.fdiv_eq_ediv_of_nonneg _ (by decide)]; rfl
    · rw [show min (8 * ((2 : Nat) : Int)).toNat 64 = 16 by decide, Int.fdiv_eq_ediv_of_nonneg _ (by decide)]; rfl
    · rw [show min (8 * ((3 : Nat) : Int)).toNat 64 = 24 by decide, Int.fdiv_eq_ediv_of_nonneg _ (by decide)]; rfl
  rw [e]
  have h1 : (0 : Int) < 256 ^ n := Int.pow_pos (by decide)
  by_cases h : fit n x
  · rw [decide_eq_true h, Int.ediv_eq_zero_of_lt h.1 h.2]; rfl
  · rw [decide_eq_false h]
    have h2 : 256 ^ n ≤ x := by
      by_cases h3 : x < 256 ^ n
      · exact absurd ⟨h0, h3⟩ h
      · omega
    have h3 : 1 ≤ x / 256 ^ n := (Int.le_ediv_iff_mul_le h1).2 (by rw [Int.one_mul]; exact h2)
    simp; omega

abbrev iS (l : List Int) : CV := .rsl 1 l.length none (inC l)
theorem sp_fitsC (n : Nat) (hn : n ≤ 3) (x : Int) : FSpec Try.prog 82 [iV x, .cv (.ptr 0 0 0 0)] [.cells [iC n]] (fun v ρ' => v = bV (!decide (fit n x)) ∧ ρ' = [.cells [iC n]]) := by
  refine FSpec.of follow Try.func82 c82 (Nat.le_of_ble_eq_true rfl) fun hf => ?_
  by_cases h0 : x < 0
  · have e1 : decide (x < 0) = true := decide_eq_true h0
    have e2 : decide (fit n x) = false := decide_eq_false fun h => by have := h.1; omega
    rw [e2]
    simp only [sc82, e1, go_sem, reduceIte, reduceCtorEq, Nat.reduceAdd, Nat.reduceMul, Nat.reduceSub, Nat.reduceDiv, Nat.reduceMod, Nat.reduceLeDiff, Nat.reduceEqDiff, Nat.reduceBEq, Nat.reduceBNe, Int.reduceBEq, Int.reduceBNe, Int.reduceAdd, Int.reduceSub, Int.reduceMul, Int.reduceLE, Int.reduceLT, Int.reduceEq, Int.reduceNeg, Int.reduceToNat, Nat.reduceLT]
    refine RetC.bk [] ⟨rfl, rfl⟩
  · have e1 : decide (x < 0) = false := decide_eq_false h0
    rw [← shr_fit hn (by omega)]
    simp only [sc82, e1, go_sem, reduceIte, reduceCtorEq, Nat.reduceAdd, Nat.reduceMul, Nat.reduceSub, Nat.reduceDiv, Nat.reduceMod, Nat.reduceLeDiff, Nat.reduceEqDiff, Nat.reduceBEq, Nat.reduceBNe, Int.reduceBEq, Int.reduceBNe, Int.reduceAdd, Int.reduceSub, Int.reduceMul, Int.reduceLE, Int.reduceLT, Int.reduceEq, Int.reduceNeg, Int.reduceToNat, Nat.reduceLT]
    repeat (refine And.intro (by first | omega | (unfold inI64; omega) | (simp only [u8min, u8max, u16min, u16max, u32min, u32max]; omega)) ?_)
    refine RetC.bk [] ⟨rfl, rfl⟩
theorem all_take {α : Type} {P : α → Prop} {d : α} {l : List α} {i : Nat} (h : i < l.length) (h1 : ∀ x ∈ l.take i, P x) (h2 : P (l.getD i d)) : ∀ x ∈ l.take (i + 1), P x := by
  rw [List.take_add_one, List.getElem?_eq_getElem h]
  rw [List.getD_eq_getElem?_getD, List.getElem?_eq_getElem h] at h2
  intro x hx
  rcases List.mem_append.1 hx with hx | hx
  · exact h1 x hx
  · rw [Option.toList_some, List.mem_singleton] at hx; rw [hx]; exact h2

set_option maxHeartbeats 4000000 in
theorem sp_indexI (n : Nat) (hn : n ≤ 3) (l : List Int) (hlen : l.length ≤ 100) : FSpec Try.prog 92 [.cv (iS l), .cv (.fn (.func 82) [] [.ptr 0 0 0 0])] [.cells [iC n]] (fun v ρ' => (∃ r, v = iV r ∧ (r ≥ 0 ↔ ¬ ∀ x ∈ l, fit n x)) ∧ ρ' = [.cells [iC n]]) := by
  refine FSpec.of follow Try.func92 c92 (Nat.le_of_ble_eq_true rfl) fun hf => ?_
  simp only [sc92, go_sem, reduceIte, reduceCtorEq, Nat.reduceAdd, Nat.reduceMul, Nat.reduceSub, Nat.reduceDiv, Nat.reduceMod, Nat.reduceLeDiff, Nat.reduceEqDiff, Nat.reduceBEq, Nat.reduceBNe, Int.reduceBEq, Int.reduceBNe, Int.reduceAdd, Int.reduceSub, Int.reduceMul, Int.reduceLE, Int.reduceLT, Int.reduceEq, Int.reduceNeg, Int.reduceToNat, Nat.reduceLT]
  refine LoopC.inv follow (fun i : Nat => ⟨mkSl 19 [(0, .cv (iS l)), (1, .cv (.fn (.func 82) [] [.ptr 0 0 0 0])), (7, iV l.length), (8, iV i)], [(0, .cells [iC n])], 1⟩)
    (fun i => i ≤ l.length ∧ ∀ x ∈ l.take i, fit n x) (fun i => l.length - i) 0 ⟨Nat.zero_le _, fun x hx => by cases hx⟩ (Weak.b [0] 0) ?_
  rintro i ⟨hi, hl⟩
  simp only [mkSl, go_sem, reduceIte, reduceCtorEq, Nat.reduceAdd, Nat.reduceMul, Nat.reduceSub, Nat.reduceDiv, Nat.reduceMod, Nat.reduceLeDiff, Nat.reduceEqDiff, Nat.reduceBEq, Nat.reduceBNe, Int.reduceBEq, Int.reduceBNe, Int.reduceAdd, Int.reduceSub, Int.reduceMul, Int.reduceLE, Int.reduceLT, Int.reduceEq, Int.reduceNeg, Int.reduceToNat, Nat.reduceLT]
  refine CondC.of (fun hc => ?_) (fun hc => ?_)
  · simp only [decide_eq_true_eq] at hc
    have hc' : i < l.length := by omega
    have hi2 : inI64 ((i : Int) + 1) := by constructor <;> omega
    simp only [go_sem, reduceIte, reduceCtorEq, Nat.reduceAdd, Nat.reduceMul, Nat.reduceSub, Nat.reduceDiv, Nat.reduceMod, Nat.reduceLeDiff, Nat.reduceEqDiff, Nat.reduceBEq, Nat.reduceBNe, Int.reduceBEq, Int.reduceBNe, Int.reduceAdd, Int.reduceSub, Int.reduceMul, Int.reduceLE, Int.reduceLT, Int.reduceEq, Int.reduceNeg, Int.reduceToNat, Nat.reduceLT]
    repeat (refine And.intro (by first | omega | (unfold inI64; omega) | (simp only [u8min, u8max, u16min, u16max, u32min, u32max]; omega)) ?_)
    have hs := sp_fitsC n hn (l.getD i 0)
    by_cases h : fit n (l.getD i 0)
    · rw [decide_eq_true h] at hs
      refine CallC.os hs [0] ?_
      rintro v ρ' ⟨rfl, rfl⟩
      simp only [Bool.not_true, go_sem, reduceIte, reduceCtorEq, Nat.reduceAdd, Nat.reduceMul, Nat.reduceSub, Nat.reduceDiv, Nat.reduceMod, Nat.reduceLeDiff, Nat.reduceEqDiff, Nat.reduceBEq, Nat.reduceBNe, Int.reduceBEq, Int.reduceBNe, Int.reduceAdd, Int.reduceSub, Int.reduceMul, Int.reduceLE, Int.reduceLT, Int.reduceEq, Int.reduceNeg, Int.reduceToNat, Nat.reduceLT]
      repeat (refine And.intro (by first | omega | (unfold inI64; omega) | (simp only [u8min, u8max, u16min, u16max, u32min, u32max]; omega)) ?_)
      exact ⟨i + 1, ⟨by omega, all_take hc' hl h⟩, by omega, Weak.b [0] 0⟩
    · rw [decide_eq_false h] at hs
      refine CallC.os hs [0] ?_
      rintro v ρ' ⟨rfl, rfl⟩
      simp only [Bool.not_false, go_sem, reduceIte, reduceCtorEq, Nat.reduceAdd, Nat.reduceMul, Nat.reduceSub, Nat.reduceDiv, Nat.reduceMod, Nat.reduceLeDiff, Nat.reduceEqDiff, Nat.reduceBEq, Nat.reduceBNe, Int.reduceBEq, Int.reduceBNe, Int.reduceAdd, Int.reduceSub, Int.reduceMul, Int.reduceLE, Int.reduceLT, Int.reduceEq, Int.reduceNeg, Int.reduceToNat, Nat.reduceLT]
      refine RetC.bk [] ⟨⟨i, rfl, iff_of_true (by omega) fun h' => h (h' _ (getD_mem hc' _))⟩, rfl⟩
  · simp only [decide_eq_false_iff_not] at hc
    obtain rfl : i = l.length := by omega
    rw [List.take_length] at hl
    simp only [go_sem, reduceIte, reduceCtorEq, Nat.reduceAdd, Nat.reduceMul, Nat.reduceSub, Nat.reduceDiv, Nat.reduceMod, Nat.reduceLeDiff, Nat.reduceEqDiff, Nat.reduceBEq, Nat.reduceBNe, Int.reduceBEq, Int.reduceBNe, Int.reduceAdd, Int.reduceSub, Int.reduceMul, Int.reduceLE, Int.reduceLT, Int.reduceEq, Int.reduceNeg, Int.reduceToNat, Nat.reduceLT]
    refine RetC.bk [] ⟨⟨-1, rfl, iff_of_false (by decide) fun h => h hl⟩, rfl⟩

theorem sp_containsI (n : Nat) (hn : n ≤ 3) (l : List Int) (hlen : l.length ≤ 100) : FSpec Try.prog 81 [.cv (iS l), .cv (.fn (.func 82) [] [.ptr 0 0 0 0])] [.cells [iC n]] (fun v ρ' => v = bV (!decide (∀ x ∈ l, fit n x)) ∧ ρ' = [.cells [iC n]]) := by
  refine FSpec.of follow Try.func81 c81 (Nat.le_of_ble_eq_true rfl) fun hf => ?_
  simp only [sc81, go_sem, reduceIte, reduceCtorEq, Nat.reduceAdd, Nat.reduceMul, Nat.reduceSub, Nat.reduceDiv, Nat.reduceMod, Nat.reduceLeDiff, Nat.reduceEqDiff, Nat.reduceBEq, Nat.reduceBNe, Int.reduceBEq, Int.reduceBNe, Int.reduceAdd, Int.reduceSub, Int.reduceMul, Int.reduceLE, Int.reduceLT, Int.reduceEq, Int.reduceNeg, Int.reduceToNat, Nat.reduceLT]
  refine CallC.os (sp_indexI n hn l hlen) [0] ?_
  rintro v ρ' ⟨⟨r, rfl, hr⟩, rfl⟩
  have e : decide (r ≥ 0) = !decide (∀ x ∈ l, fit n x) := by
    by_cases h : ∀ x ∈ l, fit n x
    · rw [decide_eq_true h, decide_eq_false fun h' => hr.1 h' h]; rfl
    · rw [decide_eq_false h, decide_eq_true (hr.2 h)]; rfl
  simp only [e, go_sem, reduceIte, reduceCtorEq, Nat.reduceAdd, Nat.reduceMul, Nat.reduceSub, Nat.reduceDiv, Nat.reduceMod, Nat.reduceLeDiff, Nat.reduceEqDiff, Nat.reduceBEq, Nat.reduceBNe, Int.reduceBEq, Int.reduceBNe, Int.reduceAdd, Int.reduceSub, Int.reduceMul, Int.reduceLE, Int.reduceLT, Int.reduceEq, Int.reduceNeg, Int.reduceToNat, Nat.reduceLT]
  refine RetC.bk [] ⟨rfl, rfl⟩

theorem sp_fits (n : Nat) (hn : n ≤ 3) (l : List Int) (hlen : l.length ≤ 100) : FSpec Try.prog 40 [iV n, .cv (iS l)] [] (fun v ρ' => v = bV (decide (∀ x ∈ l, fit n x)) ∧ ρ' = []) := by
  refine FSpec.of follow Try.func40 c40 (Nat.le_of_ble_eq_true rfl) fun hf => ?_
  simp only [sc40, go_sem, reduceIte, reduceCtorEq, Nat.reduceAdd, Nat.reduceMul, Nat.reduceSub, Nat.reduceDiv, Nat.reduceMod, Nat.reduceLeDiff, Nat.reduceEqDiff, Nat.reduceBEq, Nat.reduceBNe, Int.reduceBEq, Int.reduceBNe, Int.reduceAdd, Int.reduceSub, Int.reduceMul, Int.reduceLE, Int.reduceLT, Int.reduceEq, Int.reduceNeg, Int.reduceToNat, Nat.reduceLT]
  refine CallC.os (sp_containsI n hn l hlen) [0] ?_
  rintro v ρ' ⟨rfl, rfl⟩
  simp only [Bool.not_not, go_sem, reduceIte, reduceCtorEq, Nat.reduceAdd, Nat.reduceMul, Nat.reduceSub, Nat.reduceDiv, Nat.reduceMod, Nat.reduceLeDiff, Nat.reduceEqDiff, Nat.reduceBEq, Nat.reduceBNe, Int.reduceBEq, Int.reduceBNe, Int.reduceAdd, Int.reduceSub, Int.reduceMul, Int.reduceLE, Int.reduceLT, Int.reduceEq, Int.reduceNeg, Int.reduceToNat, Nat.reduceLT]
  refine RetC.bk [] ⟨rfl, rfl⟩
theorem sp_fits1 (n : Nat) (hn : n ≤ 3) (a : Int) : FSpec Try.prog 40 [iV n, .cv (.rsl 1 1 none (inC [a]))] [] (fun v ρ' => v = bV (decide (fit n a)) ∧ ρ' = []) := by
  have h := sp_fits n hn [a] (Nat.le_of_ble_eq_true rfl)
  have e : decide (∀ x ∈ [a], fit n x) = decide (fit n a) := by simp
  rw [e] at h
  exact h
theorem sp_fits2 (n : Nat) (hn : n ≤ 3) (a b : Int) : FSpec Try.prog 40 [iV n, .cv (.rsl 1 2 none (inC [a, b]))] [] (fun v ρ' => v = bV (decide (fit n a ∧ fit n b)) ∧ ρ' = []) := by
  have h := sp_fits n hn [a, b] (Nat.le_of_ble_eq_true rfl)
  have e : decide (∀ x ∈ [a, b], fit n x) = decide (fit n a ∧ fit n b) := by simp
  rw [e] at h
  exact h
theorem sp_spotF (a b : Int) : FSpec Try.prog 45 [.agg [iC a, iC b]] [] (fun v ρ' => v = bV (decide (fit 1 a ∧ fit 1 b)) ∧ ρ' = []) := by
  refine FSpec.of follow Try.func45 c45 (Nat.le_of_ble_eq_true rfl) fun hf => ?_
  simp only [sc45, go_sem, reduceIte, reduceCtorEq, Nat.reduceAdd, Nat.reduceMul, Nat.reduceSub, Nat.reduceDiv, Nat.reduceMod, Nat.reduceLeDiff, Nat.reduceEqDiff, Nat.reduceBEq, Nat.reduceBNe, Int.reduceBEq, Int.reduceBNe, Int.reduceAdd, Int.reduceSub, Int.reduceMul, Int.reduceLE, Int.reduceLT, Int.reduceEq, Int.reduceNeg, Int.reduceToNat, Nat.reduceLT]
  refine CallC.of_fz (sp_fits2 1 (by omega) a b) [(22, .frz 1 2 (inC [a, b]))] [] ⟨⟨Nat.zero_lt_one, Nat.le_refl _, .inl (in2 a b)⟩, trivial⟩ rfl rfl ⟨by repeat' (first | exact trivial | exact rfl | exact Or.inl rfl | exact slotW_ren _ | exact cvW_ren _ | exact cvsW_ren _ | exact Nat.le_refl _ | exact slotW_frz rfl (Nat.le_refl _) | exact slotW_nil (Nat.le_of_ble_eq_true rfl) | exact cvW_frz rfl (Nat.le_refl _) | exact cvW_nil (Nat.le_of_ble_eq_true rfl) | exact Or.inl fun _ _ => rfl | exact fun _ _ => rfl | exact Nat.le_of_ble_eq_true rfl | refine ⟨Or.inl ⟨Nat.le_of_ble_eq_true rfl, ?_⟩, ?_⟩ | refine ⟨Or.inr ⟨Nat.le_of_ble_eq_true rfl, Nat.le_of_ble_eq_true rfl, Nat.le_of_ble_eq_true rfl⟩, ?_⟩ | exact Or.inr ⟨rfl, rfl, rfl, rfl, Nat.le_of_ble_eq_true rfl, Nat.le_of_ble_eq_true rfl, Nat.le_of_ble_eq_true rfl⟩ | refine ⟨?_, ?_⟩), slotW_frz rfl (Nat.le_refl _), trivial⟩ (by repeat' (first | exact trivial | exact rfl | exact Or.inl rfl | exact slotW_ren _ | exact cvW_ren _ | exact cvsW_ren _ | exact Nat.le_refl _ | exact slotW_frz rfl (Nat.le_refl _) | exact slotW_nil (Nat.le_of_ble_eq_true rfl) | exact cvW_frz rfl (Nat.le_refl _) | exact cvW_nil (Nat.le_of_ble_eq_true rfl) | exact Or.inl fun _ _ => rfl | exact fun _ _ => rfl | exact Nat.le_of_ble_eq_true rfl | refine ⟨Or.inl ⟨Nat.le_of_ble_eq_true rfl, ?_⟩, ?_⟩ | refine ⟨Or.inr ⟨Nat.le_of_ble_eq_true rfl, Nat.le_of_ble_eq_true rfl, Nat.le_of_ble_eq_true rfl⟩, ?_⟩ | exact Or.inr ⟨rfl, rfl, rfl, rfl, Nat.le_of_ble_eq_true rfl, Nat.le_of_ble_eq_true rfl, Nat.le_of_ble_eq_true rfl⟩ | refine ⟨?_, ?_⟩)) rfl rfl ?_
  rintro v ρ' ⟨rfl, rfl⟩
  simp only [go_sem, reduceIte, reduceCtorEq, Nat.reduceAdd, Nat.reduceMul, Nat.reduceSub, Nat.reduceDiv, Nat.reduceMod, Nat.reduceLeDiff, Nat.reduceEqDiff, Nat.reduceBEq, Nat.reduceBNe, Int.reduceBEq, Int.reduceBNe, Int.reduceAdd, Int.reduceSub, Int.reduceMul, Int.reduceLE, Int.reduceLT, Int.reduceEq, Int.reduceNeg, Int.reduceToNat, Nat.reduceLT]
  refine RetC.bk [] ⟨rfl, rfl⟩
theorem dec_and {P Q : Prop} [Decidable P] [Decidable Q] (h : P) : decide (P ∧ Q) = decide Q := by simp [h]
theorem dec_and_f {P Q : Prop} [Decidable P] [Decidable Q] (h : ¬ P) : decide (P ∧ Q) = false := by simp [h]
theorem sp_moveF (x : Mv) : FSpec Try.prog 44 [.agg [iC x.1, iC x.2.1, iC x.2.2.1, iC x.2.2.2]] [] (fun v ρ' => v = bV (decide (fitM x)) ∧ ρ' = []) := by
  have hs1 := sp_spotF x.1 x.2.1
  have hs2 := sp_spotF x.2.2.1 x.2.2.2
  refine FSpec.of follow Try.func44 c44 (Nat.le_of_ble_eq_true rfl) fun hf => ?_
  simp only [sc44, go_sem, reduceIte, reduceCtorEq, Nat.reduceAdd, Nat.reduceMul, Nat.reduceSub, Nat.reduceDiv, Nat.reduceMod, Nat.reduceLeDiff, Nat.reduceEqDiff, Nat.reduceBEq, Nat.reduceBNe, Int.reduceBEq, Int.reduceBNe, Int.reduceAdd, Int.reduceSub, Int.reduceMul, Int.reduceLE, Int.reduceLT, Int.reduceEq, Int.reduceNeg, Int.reduceToNat, Nat.reduceLT]
  by_cases h : fit 1 x.1 ∧ fit 1 x.2.1
  · have e : decide (fitM x) = decide (fit 1 x.2.2.1 ∧ fit 1 x.2.2.2) := dec_and h
    rw [decide_eq_true h] at hs1
    rw [e]
    refine CallC.os hs1 [] ?_
    rintro v ρ' ⟨rfl, rfl⟩
    simp only [go_sem, reduceIte, reduceCtorEq, Nat.reduceAdd, Nat.reduceMul, Nat.reduceSub, Nat.reduceDiv, Nat.reduceMod, Nat.reduceLeDiff, Nat.reduceEqDiff, Nat.reduceBEq, Nat.reduceBNe, Int.reduceBEq, Int.reduceBNe, Int.reduceAdd, Int.reduceSub, Int.reduceMul, Int.reduceLE, Int.reduceLT, Int.reduceEq, Int.reduceNeg, Int.reduceToNat, Nat.reduceLT]
    refine CallC.os hs2 [] ?_
    rintro v ρ' ⟨rfl, rfl⟩
    simp only [go_sem, reduceIte, reduceCtorEq, Nat.reduceAdd, Nat.reduceMul, Nat.reduceSub, Nat.reduceDiv, Nat.reduceMod, Nat.reduceLeDiff, Nat.reduceEqDiff, Nat.reduceBEq, Nat.reduceBNe, Int.reduceBEq, Int.reduceBNe, Int.reduceAdd, Int.reduceSub, Int.reduceMul, Int.reduceLE, Int.reduceLT, Int.reduceEq, Int.reduceNeg, Int.reduceToNat, Nat.reduceLT]
    refine RetC.bk [] ⟨rfl, rfl⟩
  · have e : decide (fitM x) = false := dec_and_f h
    rw [decide_eq_false h] at hs1
    rw [e]
    refine CallC.os hs1 [] ?_
    rintro v ρ' ⟨rfl, rfl⟩
    simp only [go_sem, reduceIte, reduceCtorEq, Nat.reduceAdd, Nat.reduceMul, Nat.reduceSub, Nat.reduceDiv, Nat.reduceMod, Nat.reduceLeDiff, Nat.reduceEqDiff, Nat.reduceBEq, Nat.reduceBNe, Int.reduceBEq, Int.reduceBNe, Int.reduceAdd, Int.reduceSub, Int.reduceMul, Int.reduceLE, Int.reduceLT, Int.reduceEq, Int.reduceNeg, Int.reduceToNat, Nat.reduceLT]
    refine RetC.bk [] ⟨rfl, rfl⟩
theorem sp_imageF (l : List Int) : FSpec Try.prog 46 [.cv (lbC l)] [] (fun v ρ' => v = bV (decide (img l)) ∧ ρ' = []) := by
  refine FSpec.of follow Try.func46 c46 (Nat.le_of_ble_eq_true rfl) fun hf => ?_
  by_cases h : l.length = 0
  · have e1 : ((l.length : Int) == 0) = true := by simp [h]
    rw [decide_eq_true (show img l from .inl h)]
    simp only [sc46, e1, go_sem, reduceIte, reduceCtorEq, Nat.reduceAdd, Nat.reduceMul, Nat.reduceSub, Nat.reduceDiv, Nat.reduceMod, Nat.reduceLeDiff, Nat.reduceEqDiff, Nat.reduceBEq, Nat.reduceBNe, Int.reduceBEq, Int.reduceBNe, Int.reduceAdd, Int.reduceSub, Int.reduceMul, Int.reduceLE, Int.reduceLT, Int.reduceEq, Int.reduceNeg, Int.reduceToNat, Nat.reduceLT]
    refine RetC.bk [] ⟨rfl, rfl⟩
  · have e1 : ((l.length : Int) == 0) = false := by simp; exact fun h' => h (by rw [h']; rfl)
    have e2 : ((l.length : Int) == 26) = decide (img l) := by
      by_cases h2 : l.length = 26
      · rw [decide_eq_true (show img l from .inr h2), h2]; rfl
      · rw [decide_eq_false (show ¬ img l from fun h' => h'.elim h h2)]; simp; omega
    simp only [sc46, e1, e2, go_sem, reduceIte, reduceCtorEq, Nat.reduceAdd, Nat.reduceMul, Nat.reduceSub, Nat.reduceDiv, Nat.reduceMod, Nat.reduceLeDiff, Nat.reduceEqDiff, Nat.reduceBEq, Nat.reduceBNe, Int.reduceBEq, Int.reduceBNe, Int.reduceAdd, Int.reduceSub, Int.reduceMul, Int.reduceLE, Int.reduceLT, Int.reduceEq, Int.reduceNeg, Int.reduceToNat, Nat.reduceLT]
    refine RetC.bk [] ⟨rfl, rfl⟩
theorem sp_may1 (x : Lv) : FSpec Try.prog 39 [.agg [iC x.1, iC x.2.1, iC x.2.2.1, bC x.2.2.2]] [] (fun v ρ' => v = bV (decide (fitL x)) ∧ ρ' = []) := by
  have hs1 := sp_fits1 1 (by omega) x.1
  have hs2 := sp_fits2 3 (by omega) x.2.1 x.2.2.1
  refine FSpec.of follow Try.func39 c39 (Nat.le_of_ble_eq_true rfl) fun hf => ?_
  simp only [sc39, go_sem, reduceIte, reduceCtorEq, Nat.reduceAdd, Nat.reduceMul, Nat.reduceSub, Nat.reduceDiv, Nat.reduceMod, Nat.reduceLeDiff, Nat.reduceEqDiff, Nat.reduceBEq, Nat.reduceBNe, Int.reduceBEq, Int.reduceBNe, Int.reduceAdd, Int.reduceSub, Int.reduceMul, Int.reduceLE, Int.reduceLT, Int.reduceEq, Int.reduceNeg, Int.reduceToNat, Nat.reduceLT]
  by_cases h : fit 1 x.1
  · have e : decide (fitL x) = decide (fit 3 x.2.1 ∧ fit 3 x.2.2.1) := dec_and h
    rw [decide_eq_true h] at hs1
    rw [e]
    refine CallC.of_fz hs1 [(20, .frz 1 1 (inC [x.1]))] [] ⟨⟨Nat.zero_lt_one, Nat.le_refl _, .inl (in1 _)⟩, trivial⟩ rfl rfl ⟨by repeat' (first | exact trivial | exact rfl | exact Or.inl rfl | exact slotW_ren _ | exact cvW_ren _ | exact cvsW_ren _ | exact Nat.le_refl _ | exact slotW_frz rfl (Nat.le_refl _) | exact slotW_nil (Nat.le_of_ble_eq_true rfl) | exact cvW_frz rfl (Nat.le_refl _) | exact cvW_nil (Nat.le_of_ble_eq_true rfl) | exact Or.inl fun _ _ => rfl | exact fun _ _ => rfl | exact Nat.le_of_ble_eq_true rfl | refine ⟨Or.inl ⟨Nat.le_of_ble_eq_true rfl, ?_⟩, ?_⟩ | refine ⟨Or.inr ⟨Nat.le_of_ble_eq_true rfl, Nat.le_of_ble_eq_true rfl, Nat.le_of_ble_eq_true rfl⟩, ?_⟩ | exact Or.inr ⟨rfl, rfl, rfl, rfl, Nat.le_of_ble_eq_true rfl, Nat.le_of_ble_eq_true rfl, Nat.le_of_ble_eq_true rfl⟩ | refine ⟨?_, ?_⟩), slotW_frz rfl (Nat.le_refl _), trivial⟩ (by repeat' (first | exact trivial | exact rfl | exact Or.inl rfl | exact slotW_ren _ | exact cvW_ren _ | exact cvsW_ren _ | exact Nat.le_refl _ | exact slotW_frz rfl (Nat.le_refl _) | exact slotW_nil (Nat.le_of_ble_eq_true rfl) | exact cvW_frz rfl (Nat.le_refl _) | exact cvW_nil (Nat.le_of_ble_eq_true rfl) | exact Or.inl fun _ _ => rfl | exact fun _ _ => rfl | exact Nat.le_of_ble_eq_true rfl | refine ⟨Or.inl ⟨Nat.le_of_ble_eq_true rfl, ?_⟩, ?_⟩ | refine ⟨Or.inr ⟨Nat.le_of_ble_eq_true rfl, Nat.le_of_ble_eq_true rfl, Nat.le_of_ble_eq_true rfl⟩, ?_⟩ | exact Or.inr ⟨rfl, rfl, rfl, rfl, Nat.le_of_ble_eq_true rfl, Nat.le_of_ble_eq_true rfl, Nat.le_of_ble_eq_true rfl⟩ | refine ⟨?_, ?_⟩)) rfl rfl ?_
    rintro v ρ' ⟨rfl, rfl⟩
    simp only [go_sem, reduceIte, reduceCtorEq, Nat.reduceAdd, Nat.reduceMul, Nat.reduceSub, Nat.reduceDiv, Nat.reduceMod, Nat.reduceLeDiff, Nat.reduceEqDiff, Nat.reduceBEq, Nat.reduceBNe, Int.reduceBEq, Int.reduceBNe, Int.reduceAdd, Int.reduceSub, Int.reduceMul, Int.reduceLE, Int.reduceLT, Int.reduceEq, Int.reduceNeg, Int.reduceToNat, Nat.reduceLT]
    refine CallC.of_fz hs2 [(27, .frz 1 2 (inC [x.2.1, x.2.2.1]))] [] ⟨⟨Nat.zero_lt_one, Nat.le_refl _, .inl (in2 _ _)⟩, trivial⟩ rfl rfl ⟨by repeat' (first | exact trivial | exact rfl | exact Or.inl rfl | exact slotW_ren _ | exact cvW_ren _ | exact cvsW_ren _ | exact Nat.le_refl _ | exact slotW_frz rfl (Nat.le_refl _) | exact slotW_nil (Nat.le_of_ble_eq_true rfl) | exact cvW_frz rfl (Nat.le_refl _) | exact cvW_nil (Nat.le_of_ble_eq_true rfl) | exact Or.inl fun _ _ => rfl | exact fun _ _ => rfl | exact Nat.le_of_ble_eq_true rfl | refine ⟨Or.inl ⟨Nat.le_of_ble_eq_true rfl, ?_⟩, ?_⟩ | refine ⟨Or.inr ⟨Nat.le_of_ble_eq_true rfl, Nat.le_of_ble_eq_true rfl, Nat.le_of_ble_eq_true rfl⟩, ?_⟩ | exact Or.inr ⟨rfl, rfl, rfl, rfl, Nat.le_of_ble_eq_true rfl, Nat.le_of_ble_eq_true rfl, Nat.le_of_ble_eq_true rfl⟩ | refine ⟨?_, ?_⟩), slotW_frz rfl (Nat.le_refl _), trivial⟩ (by repeat' (first | exact trivial | exact rfl | exact Or.inl rfl | exact slotW_ren _ | exact cvW_ren _ | exact cvsW_ren _ | exact Nat.le_refl _ | exact slotW_frz rfl (Nat.le_refl _) | exact slotW_nil (Nat.le_of_ble_eq_true rfl) | exact cvW_frz rfl (Nat.le_refl _) | exact cvW_nil (Nat.le_of_ble_eq_true rfl) | exact Or.inl fun _ _ => rfl | exact fun _ _ => rfl | exact Nat.le_of_ble_eq_true rfl | refine ⟨Or.inl ⟨Nat.le_of_ble_eq_true rfl, ?_⟩, ?_⟩ | refine ⟨Or.inr ⟨Nat.le_of_ble_eq_true rfl, Nat.le_of_ble_eq_true rfl, Nat.le_of_ble_eq_true rfl⟩, ?_⟩ | exact Or.inr ⟨rfl, rfl, rfl, rfl, Nat.le_of_ble_eq_true rfl, Nat.le_of_ble_eq_true rfl, Nat.le_of_ble_eq_true rfl⟩ | refine ⟨?_, ?_⟩)) rfl rfl ?_
    rintro v ρ' ⟨rfl, rfl⟩
    simp only [go_sem, reduceIte, reduceCtorEq, Nat.reduceAdd, Nat.reduceMul, Nat.reduceSub, Nat.reduceDiv, Nat.reduceMod, Nat.reduceLeDiff, Nat.reduceEqDiff, Nat.reduceBEq, Nat.reduceBNe, Int.reduceBEq, Int.reduceBNe, Int.reduceAdd, Int.reduceSub, Int.reduceMul, Int.reduceLE, Int.reduceLT, Int.reduceEq, Int.reduceNeg, Int.reduceToNat, Nat.reduceLT]
    refine RetC.bk [] ⟨rfl, rfl⟩
  · have e : decide (fitL x) = false := dec_and_f h
    rw [decide_eq_false h] at hs1
    rw [e]
    refine CallC.of_fz hs1 [(20, .frz 1 1 (inC [x.1]))] [] ⟨⟨Nat.zero_lt_one, Nat.le_refl _, .inl (in1 _)⟩, trivial⟩ rfl rfl ⟨by repeat' (first | exact trivial | exact rfl | exact Or.inl rfl | exact slotW_ren _ | exact cvW_ren _ | exact cvsW_ren _ | exact Nat.le_refl _ | exact slotW_frz rfl (Nat.le_refl _) | exact slotW_nil (Nat.le_of_ble_eq_true rfl) | exact cvW_frz rfl (Nat.le_refl _) | exact cvW_nil (Nat.le_of_ble_eq_true rfl) | exact Or.inl fun _ _ => rfl | exact fun _ _ => rfl | exact Nat.le_of_ble_eq_true rfl | refine ⟨Or.inl ⟨Nat.le_of_ble_eq_true rfl, ?_⟩, ?_⟩ | refine ⟨Or.inr ⟨Nat.le_of_ble_eq_true rfl, Nat.le_of_ble_eq_true rfl, Nat.le_of_ble_eq_true rfl⟩, ?_⟩ | exact Or.inr ⟨rfl, rfl, rfl, rfl, Nat.le_of_ble_eq_true rfl, Nat.le_of_ble_eq_true rfl, Nat.le_of_ble_eq_true rfl⟩ | refine ⟨?_, ?_⟩), slotW_frz rfl (Nat.le_refl _), trivial⟩ (by repeat' (first | exact trivial | exact rfl | exact Or.inl rfl | exact slotW_ren _ | exact cvW_ren _ | exact cvsW_ren _ | exact Nat.le_refl _ | exact slotW_frz rfl (Nat.le_refl _) | exact slotW_nil (Nat.le_of_ble_eq_true rfl) | exact cvW_frz rfl (Nat.le_refl _) | exact cvW_nil (Nat.le_of_ble_eq_true rfl) | exact Or.inl fun _ _ => rfl | exact fun _ _ => rfl | exact Nat.le_of_ble_eq_true rfl | refine ⟨Or.inl ⟨Nat.le_of_ble_eq_true rfl, ?_⟩, ?_⟩ | refine ⟨Or.inr ⟨Nat.le_of_ble_eq_true rfl, Nat.le_of_ble_eq_true rfl, Nat.le_of_ble_eq_true rfl⟩, ?_⟩ | exact Or.inr ⟨rfl, rfl, rfl, rfl, Nat.le_of_ble_eq_true rfl, Nat.le_of_ble_eq_true rfl, Nat.le_of_ble_eq_true rfl⟩ | refine ⟨?_, ?_⟩)) rfl rfl ?_
    rintro v ρ' ⟨rfl, rfl⟩
    simp only [go_sem, reduceIte, reduceCtorEq, Nat.reduceAdd, Nat.reduceMul, Nat.reduceSub, Nat.reduceDiv, Nat.reduceMod, Nat.reduceLeDiff, Nat.reduceEqDiff, Nat.reduceBEq, Nat.reduceBNe, Int.reduceBEq, Int.reduceBNe, Int.reduceAdd, Int.reduceSub, Int.reduceMul, Int.reduceLE, Int.reduceLT, Int.reduceEq, Int.reduceNeg, Int.reduceToNat, Nat.reduceLT]
    refine RetC.bk [] ⟨rfl, rfl⟩
theorem sp_may2 (x : Dt) : FSpec Try.prog 41 [.agg [iC x.1, iC x.2]] [] (fun v ρ' => v = bV (decide (fitD x)) ∧ ρ' = []) := by
  have hs1 := sp_fits1 1 (by omega) x.1
  have hs2 := sp_fits1 3 (by omega) x.2
  refine FSpec.of follow Try.func41 c41 (Nat.le_of_ble_eq_true rfl) fun hf => ?_
  simp only [sc41, go_sem, reduceIte, reduceCtorEq, Nat.reduceAdd, Nat.reduceMul, Nat.reduceSub, Nat.reduceDiv, Nat.reduceMod, Nat.reduceLeDiff, Nat.reduceEqDiff, Nat.reduceBEq, Nat.reduceBNe, Int.reduceBEq, Int.reduceBNe, Int.reduceAdd, Int.reduceSub, Int.reduceMul, Int.reduceLE, Int.reduceLT, Int.reduceEq, Int.reduceNeg, Int.reduceToNat, Nat.reduceLT]
  by_cases h : fit 1 x.1
  · have e : decide (fitD x) = decide (fit 3 x.2) := dec_and h
    rw [decide_eq_true h] at hs1
    rw [e]
    refine CallC.of_fz hs1 [(20, .frz 1 1 (inC [x.1]))] [] ⟨⟨Nat.zero_lt_one, Nat.le_refl _, .inl (in1 _)⟩, trivial⟩ rfl rfl ⟨by repeat' (first | exact trivial | exact rfl | exact Or.inl rfl | exact slotW_ren _ | exact cvW_ren _ | exact cvsW_ren _ | exact Nat.le_refl _ | exact slotW_frz rfl (Nat.le_refl _) | exact slotW_nil (Nat.le_of_ble_eq_true rfl) | exact cvW_frz rfl (Nat.le_refl _) | exact cvW_nil (Nat.le_of_ble_eq_true rfl) | exact Or.inl fun _ _ => rfl | exact fun _ _ => rfl | exact Nat.le_of_ble_eq_true rfl | refine ⟨Or.inl ⟨Nat.le_of_ble_eq_true rfl, ?_⟩, ?_⟩ | refine ⟨Or.inr ⟨Nat.le_of_ble_eq_true rfl, Nat.le_of_ble_eq_true rfl, Nat.le_of_ble_eq_true rfl⟩, ?_⟩ | exact Or.inr ⟨rfl, rfl, rfl, rfl, Nat.le_of_ble_eq_true rfl, Nat.le_of_ble_eq_true rfl, Nat.le_of_ble_eq_true rfl⟩ | refine ⟨?_, ?_⟩), slotW_frz rfl (Nat.le_refl _), trivial⟩ (by repeat' (first | exact trivial | exact rfl | exact Or.inl rfl | exact slotW_ren _ | exact cvW_ren _ | exact cvsW_ren _ | exact Nat.le_refl _ | exact slotW_frz rfl (Nat.le_refl _) | exact slotW_nil (Nat.le_of_ble_eq_true rfl) | exact cvW_frz rfl (Nat.le_refl _) | exact cvW_nil (Nat.le_of_ble_eq_true rfl) | exact Or.inl fun _ _ => rfl | exact fun _ _ => rfl | exact Nat.le_of_ble_eq_true rfl | refine ⟨Or.inl ⟨Nat.le_of_ble_eq_true rfl, ?_⟩, ?_⟩ | refine ⟨Or.inr ⟨Nat.le_of_ble_eq_true rfl, Nat.le_of_ble_eq_true rfl, Nat.le_of_ble_eq_true rfl⟩, ?_⟩ | exact Or.inr ⟨rfl, rfl, rfl, rfl, Nat.le_of_ble_eq_true rfl, Nat.le_of_ble_eq_true rfl, Nat.le_of_ble_eq_true rfl⟩ | refine ⟨?_, ?_⟩)) rfl rfl ?_
    rintro v ρ' ⟨rfl, rfl⟩
    simp only [go_sem, reduceIte, reduceCtorEq, Nat.reduceAdd, Nat.reduceMul, Nat.reduceSub, Nat.reduceDiv, Nat.reduceMod, Nat.reduceLeDiff, Nat.reduceEqDiff, Nat.reduceBEq, Nat.reduceBNe, Int.reduceBEq, Int.reduceBNe, Int.reduceAdd, Int.reduceSub, Int.reduceMul, Int.reduceLE, Int.reduceLT, Int.reduceEq, Int.reduceNeg, Int.reduceToNat, Nat.reduceLT]
    refine CallC.of_fz hs2 [(25, .frz 1 1 (inC [x.2]))] [] ⟨⟨Nat.zero_lt_one, Nat.le_refl _, .inl (in1 _)⟩, trivial⟩ rfl rfl ⟨by repeat' (first | exact trivial | exact rfl | exact Or.inl rfl | exact slotW_ren _ | exact cvW_ren _ | exact cvsW_ren _ | exact Nat.le_refl _ | exact slotW_frz rfl (Nat.le_refl _) | exact slotW_nil (Nat.le_of_ble_eq_true rfl) | exact cvW_frz rfl (Nat.le_refl _) | exact cvW_nil (Nat.le_of_ble_eq_true rfl) | exact Or.inl fun _ _ => rfl | exact fun _ _ => rfl | exact Nat.le_of_ble_eq_true rfl | refine ⟨Or.inl ⟨Nat.le_of_ble_eq_true rfl, ?_⟩, ?_⟩ | refine ⟨Or.inr ⟨Nat.le_of_ble_eq_true rfl, Nat.le_of_ble_eq_true rfl, Nat.le_of_ble_eq_true rfl⟩, ?_⟩ | exact Or.inr ⟨rfl, rfl, rfl, rfl, Nat.le_of_ble_eq_true rfl, Nat.le_of_ble_eq_true rfl, Nat.le_of_ble_eq_true rfl⟩ | refine ⟨?_, ?_⟩), slotW_frz rfl (Nat.le_refl _), trivial⟩ (by repeat' (first | exact trivial | exact rfl | exact Or.inl rfl | exact slotW_ren _ | exact cvW_ren _ | exact cvsW_ren _ | exact Nat.le_refl _ | exact slotW_frz rfl (Nat.le_refl _) | exact slotW_nil (Nat.le_of_ble_eq_true rfl) | exact cvW_frz rfl (Nat.le_refl _) | exact cvW_nil (Nat.le_of_ble_eq_true rfl) | exact Or.inl fun _ _ => rfl | exact fun _ _ => rfl | exact Nat.le_of_ble_eq_true rfl | refine ⟨Or.inl ⟨Nat.le_of_ble_eq_true rfl, ?_⟩, ?_⟩ | refine ⟨Or.inr ⟨Nat.le_of_ble_eq_true rfl, Nat.le_of_ble_eq_true rfl, Nat.le_of_ble_eq_true rfl⟩, ?_⟩ | exact Or.inr ⟨rfl, rfl, rfl, rfl, Nat.le_of_ble_eq_true rfl, Nat.le_of_ble_eq_true rfl, Nat.le_of_ble_eq_true rfl⟩ | refine ⟨?_, ?_⟩)) rfl rfl ?_
    rintro v ρ' ⟨rfl, rfl⟩
    simp only [go_sem, reduceIte, reduceCtorEq, Nat.reduceAdd, Nat.reduceMul, Nat.reduceSub, Nat.reduceDiv, Nat.reduceMod, Nat.reduceLeDiff, Nat.reduceEqDiff, Nat.reduceBEq, Nat.reduceBNe, Int.reduceBEq, Int.reduceBNe, Int.reduceAdd, Int.reduceSub, Int.reduceMul, Int.reduceLE, Int.reduceLT, Int.reduceEq, Int.reduceNeg, Int.reduceToNat, Nat.reduceLT]
    refine RetC.bk [] ⟨rfl, rfl⟩
  · have e : decide (fitD x) = false := dec_and_f h
    rw [decide_eq_false h] at hs1
    rw [e]
    refine CallC.of_fz hs1 [(20, .frz 1 1 (inC [x.1]))] [] ⟨⟨Nat.zero_lt_one, Nat.le_refl _, .inl (in1 _)⟩, trivial⟩ rfl rfl ⟨by repeat' (first | exact trivial | exact rfl | exact Or.inl rfl | exact slotW_ren _ | exact cvW_ren _ | exact cvsW_ren _ | exact Nat.le_refl _ | exact slotW_frz rfl (Nat.le_refl _) | exact slotW_nil (Nat.le_of_ble_eq_true rfl) | exact cvW_frz rfl (Nat.le_refl _) | exact cvW_nil (Nat.le_of_ble_eq_true rfl) | exact Or.inl fun _ _ => rfl | exact fun _ _ => rfl | exact Nat.le_of_ble_eq_true rfl | refine ⟨Or.inl ⟨Nat.le_of_ble_eq_true rfl, ?_⟩, ?_⟩ | refine ⟨Or.inr ⟨Nat.le_of_ble_eq_true rfl, Nat.le_of_ble_eq_true rfl, Nat.le_of_ble_eq_true rfl⟩, ?_⟩ | exact Or.inr ⟨rfl, rfl, rfl, rfl, Nat.le_of_ble_eq_true rfl, Nat.le_of_ble_eq_true rfl, Nat.le_of_ble_eq_true rfl⟩ | refine ⟨?_, ?_⟩), slotW_frz rfl (Nat.le_refl _), trivial⟩ (by repeat' (first | exact trivial | exact rfl | exact Or.inl rfl | exact slotW_ren _ | exact cvW_ren _ | exact cvsW_ren _ | exact Nat.le_refl _ | exact slotW_frz rfl (Nat.le_refl _) | exact slotW_nil (Nat.le_of_ble_eq_true rfl) | exact cvW_frz rfl (Nat.le_refl _) | exact cvW_nil (Nat.le_of_ble_eq_true rfl) | exact Or.inl fun _ _ => rfl | exact fun _ _ => rfl | exact Nat.le_of_ble_eq_true rfl | refine ⟨Or.inl ⟨Nat.le_of_ble_eq_true rfl, ?_⟩, ?_⟩ | refine ⟨Or.inr ⟨Nat.le_of_ble_eq_true rfl, Nat.le_of_ble_eq_true rfl, Nat.le_of_ble_eq_true rfl⟩, ?_⟩ | exact Or.inr ⟨rfl, rfl, rfl, rfl, Nat.le_of_ble_eq_true rfl, Nat.le_of_ble_eq_true rfl, Nat.le_of_ble_eq_true rfl⟩ | refine ⟨?_, ?_⟩)) rfl rfl ?_
    rintro v ρ' ⟨rfl, rfl⟩
    simp only [go_sem, reduceIte, reduceCtorEq, Nat.reduceAdd, Nat.reduceMul, Nat.reduceSub, Nat.reduceDiv, Nat.reduceMod, Nat.reduceLeDiff, Nat.reduceEqDiff, Nat.reduceBEq, Nat.reduceBNe, Int.reduceBEq, Int.reduceBNe, Int.reduceAdd, Int.reduceSub, Int.reduceMul, Int.reduceLE, Int.reduceLT, Int.reduceEq, Int.reduceNeg, Int.reduceToNat, Nat.reduceLT]
    refine RetC.bk [] ⟨rfl, rfl⟩
end Go.Proofs.Ytbhefgajgdcajaa

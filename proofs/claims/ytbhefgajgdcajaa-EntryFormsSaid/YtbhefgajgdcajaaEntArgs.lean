import Derived.Test.YtbhefgajgdcajaaSxShort
import Derived.Test.YtbhefgajgdcajaaEntBegun
import Derived.Test.YtbhefgajgdcajaaSxRow
set_option linter.unusedVariables false
set_option linter.unusedSimpArgs false
/- Any number as one from 0 to n - 1. -/
namespace Go.Proofs.Ytbhefgajgdcajaa
open Sx
attribute [local go_sem] wpC_skip wpC_reg wpC_draw wpC_seq wpC_block wpC_cond wpC_loop wpC_exit wpC_join joinK_n joinK_e joinK_r wpC_ret seqK_n seqK_e seqK_r blockK_n blockK_e blockK_r Fs_nil Fs_none Fs_some stepS_eq Fc_nil Fc_none Fc_some stepC_eq opFn ev cval lk need SV.nm enumR setS setR setRs cellsOf svOf rget spliceC rset src oint eqCells cvs fillC rows ints svDest keyOf2 ridC widens ibool icalc ibin List.replicate List.getD_cons_zero List.getD_cons_succ List.getD_nil List.set_cons_zero List.set_cons_succ List.map_cons List.map_nil List.foldl_cons List.foldl_nil List.length_cons List.length_nil List.drop_zero List.drop_succ_cons List.drop_nil List.take_succ_cons List.take_zero List.take_nil List.cons_append List.nil_append List.append_nil List.headD_cons List.flatten_cons List.flatten_nil Option.map_some Option.map_none Option.getD_none Option.getD_some true_and and_true Nat.zero_add Nat.add_zero appFn svRoom sameO beq_self_eq_true Nat.zero_mul Nat.mul_zero Nat.sub_zero Nat.zero_le Nat.le_refl and_self okB Bool.not_false Bool.true_or Bool.false_or Bool.not_true List.all_nil List.all_cons Int.toNat_zero Int.toNat_one CondC_true CondC_false beq_true beq_false opEn callEn skipEn slotsOf tmpsOf SOp.operands oo free disj List.contains_cons List.contains_nil Option.toList_some Option.toList_none Bool.and_true Bool.true_and Bool.or_false Bool.or_true Bool.and_self Bool.and_false Bool.false_and decide_true decide_false List.range'_succ List.range'_zero Int.toNat_natCast Int.natCast_nonneg Int.cast_ofNat_Int ne_eq not_false_eq_true updGiven updNew getR muOf nuOf owned isRo List.range.loop List.filter SV.ren CV.ren CV.renL SV.renL Res.ren List.length List.idxOf? List.findIdx? List.findIdx?.go slotsW slotW disB List.range
set_option maxRecDepth 100000
theorem Ent.Light.fine {e : Ent} (h : e.Light) : e.Fine := by
  obtain ⟨h1, h2, h3, h4, h5⟩ := h
  exact ⟨by omega, by omega, by omega, by omega, fun x hx => by have := h5 x hx; omega⟩
theorem sp_within (k : Int) (hk : -9223372036854775808 ≤ k ∧ k ≤ 9223372036854775807) (n : Nat) (hn : 1 ≤ n) (hn2 : n ≤ 1000000) : FSpec Try.prog 21 [iV k, iV n] [] (fun v ρ' => (∃ r : Nat, v = iV r ∧ r < n) ∧ ρ' = []) := by
  refine FSpec.of follow Try.func21 c21 (Nat.le_of_ble_eq_true rfl) fun hf => ?_
  have e1 : decide ((n : Int) < 1) = false := decide_eq_false (by omega)
  have hm : ∀ q : Int, 0 ≤ q → ∃ r : Nat, q.tmod n = r ∧ r < n := fun q hq => by
    have h1 : 0 ≤ q % n := Int.emod_nonneg q (by omega)
    have h2 : q % n < n := Int.emod_lt_of_pos q (by omega)
    exact ⟨(q % n).toNat, by rw [Int.tmod_eq_emod_of_nonneg hq]; omega, by omega⟩
  by_cases h0 : k < 0
  · obtain ⟨r, hr, hr2⟩ := hm (0 - (k + 1)) (by omega)
    simp only [sc21, e1, decide_eq_true h0, go_sem, reduceIte, reduceCtorEq, Nat.reduceAdd, Nat.reduceMul, Nat.reduceSub, Nat.reduceDiv, Nat.reduceMod, Nat.reduceLeDiff, Nat.reduceEqDiff, Nat.reduceBEq, Nat.reduceBNe, Int.reduceBEq, Int.reduceBNe, Int.reduceAdd, Int.reduceSub, Int.reduceMul, Int.reduceLE, Int.reduceLT, Int.reduceEq, Int.reduceNeg, Int.reduceToNat, Nat.reduceLT]
    repeat (refine And.intro (by first | omega | (unfold inI64; omega) | (simp only [u8min, u8max, u16min, u16max, u32min, u32max]; omega)) ?_)
    simp only [hr]
    refine RetC.bk [] ⟨⟨r, rfl, hr2⟩, rfl⟩
  · obtain ⟨r, hr, hr2⟩ := hm k (by omega)
    simp only [sc21, e1, decide_eq_false h0, go_sem, reduceIte, reduceCtorEq, Nat.reduceAdd, Nat.reduceMul, Nat.reduceSub, Nat.reduceDiv, Nat.reduceMod, Nat.reduceLeDiff, Nat.reduceEqDiff, Nat.reduceBEq, Nat.reduceBNe, Int.reduceBEq, Int.reduceBNe, Int.reduceAdd, Int.reduceSub, Int.reduceMul, Int.reduceLE, Int.reduceLT, Int.reduceEq, Int.reduceNeg, Int.reduceToNat, Nat.reduceLT]
    repeat (refine And.intro (by first | omega | (unfold inI64; omega) | (simp only [u8min, u8max, u16min, u16max, u32min, u32max]; omega)) ?_)
    simp only [hr]
    refine RetC.bk [] ⟨⟨r, rfl, hr2⟩, rfl⟩
end Go.Proofs.Ytbhefgajgdcajaa

/- Arguments: entries, bytes. -/
namespace Go.Proofs.Ytbhefgajgdcajaa
open Sx
set_option maxRecDepth 100000
abbrev i64sh : Shp := .int .i64
abbrev bysh : Shp := .slice (.int .u8)
abbrev ridsh : Shp := .struct (.cons i64sh (.cons i64sh .nil))
abbrev mvsh : Shp := .struct (.cons ridsh (.cons ridsh .nil))
abbrev lvsh : Shp := .struct (.cons i64sh (.cons i64sh (.cons i64sh (.cons .bool .nil))))
abbrev dtsh : Shp := .struct (.cons i64sh (.cons i64sh .nil))
abbrev opsh : Shp := .struct (.cons i64sh (.cons (.slice mvsh) (.cons i64sh .nil)))
abbrev entsh : Shp := .struct (.cons i64sh (.cons i64sh (.cons i64sh (.cons i64sh (.cons i64sh (.cons i64sh (.cons ridsh (.cons ridsh (.cons bysh (.cons bysh (.cons (.slice mvsh) (.cons (.slice lvsh) (.cons (.slice dtsh) (.cons (.slice opsh) .nil))))))))))))))
theorem ok_rows {e : Shp} {α : Type} (R : α → List CV) (Q : α → Prop) (d : α) {l : List CV} (h : (Shp.slice e).Ok l) (hr : ∀ l, e.Ok l → ∃ x, Q x ∧ cvsZ (R x) l) :
    ∃ (xs : List α) (c : CV), l = [c] ∧ xs.length ≤ 140737488351232 ∧ (∀ x ∈ xs, Q x) ∧ cvW [] noNm 0 0 (.rsl e.size xs.length none fun j => R (xs.getD j d)) c ∧ cvZ (.rsl e.size xs.length none fun j => R (xs.getD j d)) c := by
  obtain ⟨n, F, rfl, hn, hF⟩ := h
  haveI : Inhabited α := ⟨d⟩
  obtain ⟨m, hm⟩ := Go.Deep.choose_lt fun i hi => hr (F i) (hF i hi)
  have hl : ((List.range n).map m).length = n := by simp
  have hg : ∀ i, i < n → ((List.range n).map m).getD i d = m i := fun i hi => by
    rw [List.getD_eq_getElem?_getD, List.getElem?_map, List.getElem?_range hi]; rfl
  have hz : ∀ i, i < n → cvsZ (R (((List.range n).map m).getD i d)) (F i) := fun i hi => by rw [hg i hi]; exact (hm i hi).2
  refine ⟨(List.range n).map m, _, rfl, by rw [hl]; exact hn, fun x hx => ?_, ?_, ?_⟩
  · obtain ⟨i, hi, rfl⟩ := List.mem_map.1 hx
    exact (hm i (List.mem_range.1 hi)).1
  · rw [hl]; exact .inr ⟨rfl, rfl, .inl rfl, hz⟩
  · rw [hl]; exact .inr ⟨rfl, rfl, .inl rfl, hz⟩
theorem ok_by {l : List CV} (h : bysh.Ok l) : ∃ (xs : List Int) (c : CV), l = [c] ∧ byts xs ∧ cvW [] noNm 0 0 (lbC xs) c := by
  obtain ⟨xs, c, h1, _, h2, h3, _⟩ := ok_rows (fun x : Int => [.val (.int .u8 x)]) (fun x => 0 ≤ x ∧ x ≤ 255) 0 h fun l ⟨x, hx, hw⟩ => ⟨x, wf_u8 hw, by rw [hx]; exact ⟨rfl, trivial⟩⟩
  exact ⟨xs, c, h1, h2, h3⟩
theorem ok_bys {v : SV} (h : bysh.OkS v) : ∃ xs : List Int, byts xs ∧ slotW [] noNm 0 0 (.cv (lbC xs)) v := by
  obtain ⟨c, rfl, h⟩ := h
  obtain ⟨xs, c', h1, h2, h3⟩ := ok_by h
  simp only [List.cons.injEq, and_true] at h1; subst h1
  exact ⟨xs, h2, h3⟩
theorem ok_mvs {l : List CV} (h : (Shp.slice mvsh).Ok l) : ∃ (xs : List Mv) (c : CV), l = [c] ∧ xs.length ≤ 140737488351232 ∧ cvW [] noNm 0 0 (mvS xs) c ∧ cvZ (mvS xs) c := by
  obtain ⟨xs, c, h1, h4, _, h3, h5⟩ := ok_rows (fun x : Mv => [iC x.1, iC x.2.1, iC x.2.2.1, iC x.2.2.2]) (fun _ => True) (0, 0, 0, 0) h fun l h => by
    obtain ⟨l1, l2, rfl, ⟨m1, m2, rfl, ⟨a, rfl, _⟩, m3, m4, rfl, ⟨b, rfl, _⟩, rfl⟩, l3, l4, rfl, ⟨n1, n2, rfl, ⟨c, rfl, _⟩, n3, n4, rfl, ⟨d, rfl, _⟩, rfl⟩, rfl⟩ := h
    exact ⟨(a, b, c, d), trivial, rfl, rfl, rfl, rfl, trivial⟩
  exact ⟨xs, c, h1, h4, h3, h5⟩
theorem ok_lvs {l : List CV} (h : (Shp.slice lvsh).Ok l) : ∃ (xs : List Lv) (c : CV), l = [c] ∧ cvW [] noNm 0 0 (lvS xs) c := by
  obtain ⟨xs, c, h1, h4, _, h3, h5⟩ := ok_rows (fun x : Lv => [iC x.1, iC x.2.1, iC x.2.2.1, bC x.2.2.2]) (fun _ => True) (0, 0, 0, false) h fun l h => by
    obtain ⟨l1, l2, rfl, ⟨a, rfl, _⟩, l3, l4, rfl, ⟨b, rfl, _⟩, l5, l6, rfl, ⟨c, rfl, _⟩, l7, l8, rfl, ⟨d, rfl⟩, rfl⟩ := h
    exact ⟨(a, b, c, d), trivial, rfl, rfl, rfl, rfl, trivial⟩
  exact ⟨xs, c, h1, h3⟩
theorem ok_dts {l : List CV} (h : (Shp.slice dtsh).Ok l) : ∃ (xs : List Dt) (c : CV), l = [c] ∧ cvW [] noNm 0 0 (dtS xs) c := by
  obtain ⟨xs, c, h1, h4, _, h3, h5⟩ := ok_rows (fun x : Dt => [iC x.1, iC x.2]) (fun _ => True) (0, 0) h fun l h => by
    obtain ⟨l1, l2, rfl, ⟨a, rfl, _⟩, l3, l4, rfl, ⟨b, rfl, _⟩, rfl⟩ := h
    exact ⟨(a, b), trivial, rfl, rfl, trivial⟩
  exact ⟨xs, c, h1, h3⟩
theorem ok_ops {l : List CV} (h : (Shp.slice opsh).Ok l) : ∃ (xs : List Op) (c : CV), l = [c] ∧ (∀ x ∈ xs, x.2.2.length ≤ 140737488355328) ∧ cvW [] noNm 0 0 (opS xs) c := by
  obtain ⟨xs, c, h1, h4, h2, h3, h5⟩ := ok_rows (fun x : Op => [iC x.1, mvS x.2.2, iC x.2.1]) (fun x => x.2.2.length ≤ 140737488355328) (0, 0, []) h fun l h => by
    obtain ⟨l1, l2, rfl, ⟨a, rfl, _⟩, l3, l4, rfl, hm, l5, l6, rfl, ⟨c, rfl, _⟩, rfl⟩ := h
    obtain ⟨xs, c', rfl, hl, _, hz⟩ := ok_mvs hm
    exact ⟨(a, c, xs), by dsimp only; omega, rfl, hz, rfl, trivial⟩
  exact ⟨xs, c, h1, h2, h3⟩
theorem ok_ent {v : SV} (h : entsh.OkS v) : ∃ e : Ent, e.Byts ∧ e.Sized ∧ slotW [] noNm 0 0 e.V v := by
  obtain ⟨l, rfl, l1, r1, rfl, ⟨k, rfl, _⟩, l2, r2, rfl, ⟨t, rfl, _⟩, l3, r3, rfl, ⟨u, rfl, _⟩, l4, r4, rfl, ⟨hh, rfl, _⟩, l5, r5, rfl, ⟨p, rfl, _⟩, l6, r6, rfl, ⟨n, rfl, _⟩,
    l7, r7, rfl, ⟨m1, m2, rfl, ⟨a, rfl, _⟩, m3, m4, rfl, ⟨b, rfl, _⟩, rfl⟩, l8, r8, rfl, ⟨m5, m6, rfl, ⟨c, rfl, _⟩, m7, m8, rfl, ⟨d, rfl, _⟩, rfl⟩,
    l9, r9, rfl, ho, l10, r10, rfl, hw, l11, r11, rfl, hm, l12, r12, rfl, hl, l13, r13, rfl, hy, l14, r14, rfl, hq, rfl⟩ := h
  obtain ⟨o, c1, rfl, bo, wo⟩ := ok_by ho
  obtain ⟨w, c2, rfl, bw, ww⟩ := ok_by hw
  obtain ⟨m, c3, rfl, _, wm, _⟩ := ok_mvs hm
  obtain ⟨l, c4, rfl, wl⟩ := ok_lvs hl
  obtain ⟨y, c5, rfl, wy⟩ := ok_dts hy
  obtain ⟨q, c6, rfl, zq, wq⟩ := ok_ops hq
  exact ⟨⟨k, t, u, hh, p, n, a, b, c, d, o, w, m, l, y, q⟩, ⟨bo, bw⟩, zq, rfl, rfl, rfl, rfl, rfl, rfl, rfl, rfl, rfl, rfl, wo, ww, wm, wl, wy, wq, trivial⟩
end Go.Proofs.Ytbhefgajgdcajaa

/- Entries of noughts. -/
import Derived.Test.YtbhefgajgdcajaaEntArgs
set_option linter.unusedVariables false
set_option linter.unusedSimpArgs false
namespace Go.Proofs.Ytbhefgajgdcajaa
open Sx
set_option maxRecDepth 100000
theorem rep_getD {α : Type} (n : Nat) (d : α) (j : Nat) : (List.replicate n d).getD j d = d := by
  rw [List.getD_eq_getElem?_getD, List.getElem?_replicate]; split <;> rfl
abbrev zM (_ : Nat) : List CV := [iC 0, iC 0, iC 0, iC 0]
abbrev zL (_ : Nat) : List CV := [iC 0, iC 0, iC 0, bC false]
abbrev zD (_ : Nat) : List CV := [iC 0, iC 0]
abbrev zO (_ : Nat) : List CV := [iC 0, mvS [], iC 0]
theorem mvS_rep (n : Nat) : mvS (List.replicate n (0, 0, 0, 0)) = .rsl 4 n none zM := by
  unfold mvS mvC; simp only [List.length_replicate, rep_getD]
theorem lvS_rep (n : Nat) : lvS (List.replicate n (0, 0, 0, false)) = .rsl 4 n none zL := by
  unfold lvS lvC; simp only [List.length_replicate, rep_getD]
theorem dtS_rep (n : Nat) : dtS (List.replicate n (0, 0)) = .rsl 2 n none zD := by
  unfold dtS dtC; simp only [List.length_replicate, rep_getD]
theorem opS_rep (n : Nat) : opS (List.replicate n (0, 0, [])) = .rsl 3 n none zO := by
  unfold opS opC; simp only [List.length_replicate, rep_getD]
theorem lbC_rep (n : Nat) : lbC (List.replicate n 0) = .rsl 1 n none (byf fun _ => 0) := lbC_zeros n
/-- An entry of noughts. -/
abbrev repE (k : Int) (no nw m l y q : Nat) : Ent := ⟨k, 0, 0, 0, 0, 0, 0, 0, 0, 0, List.replicate no 0, List.replicate nw 0, List.replicate m (0, 0, 0, 0), List.replicate l (0, 0, 0, false), List.replicate y (0, 0), List.replicate q (0, 0, [])⟩
theorem repE_V (k : Int) (no nw m l y q : Nat) : (repE k no nw m l y q).V = .agg [iC k, iC 0, iC 0, iC 0, iC 0, iC 0, iC 0, iC 0, iC 0, iC 0, .rsl 1 no none (byf fun _ => 0), .rsl 1 nw none (byf fun _ => 0), .rsl 4 m none zM, .rsl 4 l none zL, .rsl 2 y none zD, .rsl 3 q none zO] := by
  unfold Ent.V Ent.cells
  simp only [mvS_rep, lvS_rep, dtS_rep, opS_rep, lbC_rep]
theorem fit0 (n : Nat) : fit n 0 := ⟨Int.le_refl 0, Int.pow_pos (by decide)⟩
theorem repE_may {k : Int} {no nw m l y q : Nat} (hk : 1 ≤ k ∧ k ≤ 10) (ho : no = 0 ∨ no = 26) (hw : nw = 0 ∨ nw = 26) (hm : m ≤ 40) (hl : l ≤ 40) (hy : y ≤ 40) (hq : q ≤ 40) : May (repE k no nw m l y q) := by
  refine ⟨hk, fit0 _, fit0 _, fit0 _, fit0 _, fit0 _, fit0 _, fit0 _, fit0 _, fit0 _, ?_, ?_, ⟨?_, ?_⟩, ⟨?_, ?_⟩, ⟨?_, ?_⟩, ⟨?_, ?_⟩⟩
  · unfold img; simp only [List.length_replicate]; exact ho
  · unfold img; simp only [List.length_replicate]; exact hw
  · simp only [List.length_replicate]; exact hm
  · intro x hx; rw [List.eq_of_mem_replicate hx]; exact ⟨⟨fit0 1, fit0 1⟩, fit0 1, fit0 1⟩
  · simp only [List.length_replicate]; exact hl
  · intro x hx; rw [List.eq_of_mem_replicate hx]; exact ⟨fit0 1, fit0 3, fit0 3⟩
  · simp only [List.length_replicate]; exact hy
  · intro x hx; rw [List.eq_of_mem_replicate hx]; exact ⟨fit0 1, fit0 3⟩
  · simp only [List.length_replicate]; exact hq
  · intro x hx; rw [List.eq_of_mem_replicate hx]; exact ⟨fit0 2, fit0 1, Nat.zero_le _, fun y hy => by cases hy⟩
theorem flat_rep {α : Type} (w : α → List Int) (B : Nat) (d : α) (h : (w d).length = B) : ∀ n : Nat, ((List.replicate n d).flatMap w).length = B * n
  | 0 => rfl
  | n + 1 => by rw [List.replicate_succ, List.flatMap_cons, List.length_append, flat_rep w B d h n, h, Nat.mul_succ, Nat.add_comm]
theorem repE_len (k : Int) (no nw m l y q : Nat) : (wrE (repE k no nw m l y q)).length = 21 + no + nw + 4 * m + 8 * l + 4 * y + 4 * q := by
  unfold wrE wrI wrS
  simp only [List.length_append, numL_len, List.length_replicate]
  rw [flat_rep wrM 4 _ rfl, flat_rep wrL 8 _ rfl, flat_rep wrD 4 _ rfl, flat_rep wrO 4 _ rfl]
  omega
theorem byts_rep (n : Nat) : byts (List.replicate n 0) := byts_zeros n
theorem repE_byts (k : Int) (no nw m l y q : Nat) : (repE k no nw m l y q).Byts := ⟨byts_rep _, byts_rep _⟩
theorem repE_fine (k : Int) {no nw m l y q : Nat} (hm : m ≤ 1000) (hl : l ≤ 1000) (hy : y ≤ 1000) (hq : q ≤ 1000) : (repE k no nw m l y q).Fine := by
  refine ⟨?_, ?_, ?_, ?_, fun x hx => ?_⟩
  · simp only [List.length_replicate]; omega
  · simp only [List.length_replicate]; omega
  · simp only [List.length_replicate]; omega
  · simp only [List.length_replicate]; omega
  · rw [List.eq_of_mem_replicate hx]; exact Nat.zero_le _
end Go.Proofs.Ytbhefgajgdcajaa

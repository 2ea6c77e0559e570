/- A name told anew: what was a given name's memory is told under another name. -/
import Derived.Test.YtbhefgajgdcajaaSxBytes
set_option linter.unusedVariables false
set_option linter.unusedSimpArgs false
namespace Sx
open Go
set_option maxRecDepth 100000
def nuL (names : List Nat) (i : Nat) : Option Nat := (names.reverse.idxOf? i).map fun k => names.length - 1 - k
theorem nuL_some {names : List Nat} {i j : Nat} (h : nuL names i = some j) : j < names.length ∧ names.getD j 0 = i := by
  unfold nuL at h
  rw [List.idxOf?, Option.map_eq_some_iff] at h
  obtain ⟨k, hk, rfl⟩ := h
  rw [List.findIdx?_eq_some_iff_getElem] at hk
  obtain ⟨hlt, heq, _⟩ := hk
  rw [List.length_reverse] at hlt
  refine ⟨by omega, ?_⟩
  rw [List.getElem_reverse] at heq
  rw [List.getD_eq_getElem?_getD, List.getElem?_eq_getElem (by omega)]
  simpa using heq
/-- Who isn't the last of its name has nothing. -/
def lastB (names : List Nat) (rs : List (Nat × Res)) : Prop := ∀ j, j < names.length → nuL names (names.getD j 0) = some j ∨ lk rs j = .gone
structure WeakAl (kp : Nat) (names : List Nat) (st st' : St) : Prop where
  pre : prefixB kp names = true
  last : lastB names st'.rs
  nx : st'.nx = names.length
  slots : slotsW st.rs (nuL names) names.length (names.length + 0) st'.sl st.sl
  ress : ressW (nuL names) names 0 st.rs st'.rs
theorem Weak.al {hf : Fr} {kp : Nat} {st st' : St} (names : List Nat) (h : WeakAl kp names st st') : Weak hf kp st st' := by
  intro c a w hkp hr
  subst hkp
  obtain ⟨⟨β, hh, hfit, hrel, hnx, hB⟩, hlen, hk, hext, hdef⟩ := hr
  have hpre := h.pre
  simp only [prefixB, Bool.and_eq_true, decide_eq_true_eq, List.all_eq_true, List.mem_range, beq_iff_eq] at hpre
  let β' : Env := ⟨fun j => if j < names.length then β (names.getD j 0) else none, β.mem⟩
  let h' : Nat → Hp := fun j => if j < names.length ∧ nuL names (names.getD j 0) = some j then hh (names.getD j 0) else fun _ => none
  have hvia : Env.via β β' (nuL names) := by
    refine ⟨?_, fun _ _ hb => hb⟩
    intro i j bd hn hb
    obtain ⟨h1, h2⟩ := nuL_some hn
    show (if j < names.length then β (names.getD j 0) else _) = _
    rw [if_pos h1, h2]; exact hb
  have hemp : ∀ j, names.length ≤ j → j < names.length + 0 → β' j = some ⟨none, 0⟩ := fun j h1 h2 => by omega
  refine ⟨⟨β', h', ⟨hfit.size, fun i => slotW_den hvia (frzOk_rel hrel) hemp _ _ _ (slotsW_get i h.slots) (hfit.den i)⟩, ⟨hrel.frame, fun j b o hb => ?_, fun j j' b hjj hb => ?_, fun j b hb => ?_, fun j => ?_, hrel.fzn.old, hrel.fzn.new, hrel.fzn.sub, fun j b hb => ?_⟩, fun i hi => ?_, fun i hi => ?_⟩, by rw [slotsW_length h.slots]; exact hlen, by rw [h.nx]; omega, hext, hdef⟩
  · simp only [h'] at hb
    split at hb
    · exact hrel.sub _ _ _ hb
    · cases hb
  · simp only [h'] at hb ⊢
    split at hb
    · rename_i h1
      split
      · rename_i h2
        refine hrel.disj _ _ b (fun e => hjj ?_) hb
        have e1 := h1.2
        rw [e, h2.2] at e1
        exact (Option.some.inj e1).symm
      · rfl
    · exact absurd rfl hb
  · simp only [h'] at hb
    split at hb
    · exact hrel.apart _ b hb
    · exact absurd rfl hb
  · rcases ressW_get j h.ress with h1 | ⟨h1, h2⟩ | ⟨h1, h2, h3⟩
    · rw [h1]; trivial
    · rcases h.last j h1 with hl | hl
      · refine retell_sat hvia (frzOk_rel hrel) hemp h2 ?_
        have e1 : β' j = β (names.getD j 0) := if_pos h1
        have e2 : h' j = hh (names.getD j 0) := if_pos ⟨h1, hl⟩
        rw [e1, e2]
        exact hrel.sat _
      · rw [hl]; trivial
    · omega
  · simp only [h'] at hb
    split at hb
    · exact hrel.fzn.own _ b hb
    · exact absurd rfl hb
  · rw [h.nx] at hi
    show (if i < names.length then _ else _) = _
    rw [if_neg (by omega)]
  · have e1 : β' i = β (names.getD i 0) := if_pos (by omega)
    rw [e1, hpre.2 i (by omega)]
    exact hB i hi
end Sx

set_option linter.unusedVariables false
set_option linter.unusedSimpArgs false
/- The first place at which something is. -/
namespace Sx
/-- The first one below n for which p holds; n: none. -/
def lookF (p : Nat → Bool) : Nat → Nat
  | 0 => 0
  | n + 1 => if lookF p n < n then lookF p n else if p n then n else n + 1

theorem lookF_le (p : Nat → Bool) : ∀ n, lookF p n ≤ n
  | 0 => Nat.le_refl _
  | n + 1 => by
    unfold lookF
    have := lookF_le p n
    (repeat' split) <;> omega
theorem lookF_not (p : Nat → Bool) : ∀ n j, j < lookF p n → p j = false
  | 0, j, h => by simp [lookF] at h
  | n + 1, j, h => by
    unfold lookF at h
    have hl := lookF_le p n
    have hi := lookF_not p n
    split at h
    · exact hi j h
    · have e : lookF p n = n := by omega
      split at h
      · exact hi j (by omega)
      · rename_i hp
        by_cases hj : j = n
        · subst hj; simpa using hp
        · exact hi j (by omega)
theorem lookF_is (p : Nat → Bool) : ∀ n, lookF p n < n → p (lookF p n) = true
  | 0, h => by simp [lookF] at h
  | n + 1, h => by
    unfold lookF at h ⊢
    have hi := lookF_is p n
    split
    · rename_i h1; exact hi h1
    · rename_i h1
      rw [if_neg h1] at h
      split
      · assumption
      · rename_i h2; rw [if_neg h2] at h; omega
theorem lookF_eq {p : Nat → Bool} {n i : Nat} (h1 : i ≤ n) (h2 : ∀ j, j < i → p j = false) (h3 : i < n → p i = true) : lookF p n = i := by
  have a := lookF_le p n
  rcases Nat.lt_trichotomy (lookF p n) i with h | h | h
  · have := h2 _ h
    rw [lookF_is p n (by omega)] at this; cases this
  · exact h
  · have := lookF_not p n i h
    rw [h3 (by omega)] at this; cases this
end Sx

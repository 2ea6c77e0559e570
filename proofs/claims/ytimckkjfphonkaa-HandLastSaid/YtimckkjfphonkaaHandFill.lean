/- A cache that is filled, in plain words. -/
import Derived.Test.YtimckkjfphonkaaHandPure
set_option linter.unusedVariables false
set_option linter.unusedSimpArgs false
namespace Sx
/-- The first i places have the numbers from 0 on. -/
def fillF (v : ByteArray) (i : Nat) : Nat → Pl := fun j => if j < i then freshPl j v else noPl
abbrev fillH (v : ByteArray) (i : Nat) : Hd := ⟨0, fillF v i⟩

theorem fill_0 (v : ByteArray) : fillH v 0 = ⟨0, fun _ => noPl⟩ := congrArg (Hd.mk 0) (funext fun j => if_neg (Nat.not_lt_zero _))
theorem fill_key {v : ByteArray} {i n k : Nat} (hi : i ≤ n) (hk : k < i) : lookF (isK (fillF v i) k) n = k := by
  refine lookF_eq (by omega) (fun j hj => ?_) fun _ => ?_
  · have : ((j : Int) == (k : Int)) = false := by simp; omega
    simp [isK, fillF, show j < i by omega, freshPl, this]
  · simp [isK, fillF, hk, freshPl]
theorem fill_nokey {v : ByteArray} {i n : Nat} {k : Int} (hk : ∀ j : Nat, j < i → (j : Int) ≠ k) : lookF (isK (fillF v i) k) n = n := by
  refine lookF_eq (Nat.le_refl _) (fun j hj => ?_) fun h => absurd h (by omega)
  by_cases h : j < i
  · have : ((j : Int) == k) = false := by simpa using hk j h
    simp [isK, fillF, h, freshPl, this]
  · simp [isK, fillF, h, noPl]
theorem fill_free {v : ByteArray} {i n : Nat} (hi : i ≤ n) : lookF (isFree (fillF v i)) n = i := by
  refine lookF_eq hi (fun j hj => ?_) fun _ => ?_
  · simp [isFree, fillF, hj, freshPl]
  · simp [isFree, fillF, noPl]
theorem fill_up (v : ByteArray) (i : Nat) : upP (fillF v i) i (freshPl i v) = fillF v (i + 1) := by
  funext j
  unfold upP fillF
  by_cases h : j = i
  · subst h; rw [if_pos rfl, if_pos (by omega)]
  · rw [if_neg h]
    by_cases h2 : j < i
    · rw [if_pos h2, if_pos (by omega)]
    · rw [if_neg h2, if_neg (by omega)]
theorem fill_putH {v : ByteArray} {i n : Nat} (hi : i < n) : putH n (fillH v i) i v = fillH v (i + 1) := by
  unfold putH
  rw [fill_nokey (fun j hj => by omega), if_neg (Nat.lt_irrefl _), fill_free (by omega), if_pos hi, fill_up]
theorem fill_putT {v : ByteArray} {i n : Nat} (hi : i < n) : putT n (fillH v i) i v = quiet 0 := by
  unfold putT
  rw [fill_nokey (fun j hj => by omega), if_neg (Nat.lt_irrefl _), fill_free (by omega), if_pos hi]

theorem keysF_all {f : Nat → Pl} : ∀ {i : Nat}, (∀ j, j < i → (f j).has = true) → (keysF f i).length = i ∧ ∀ j, j < i → (keysF f i).getD j 0 = (f j).k
  | 0, _ => ⟨rfl, fun j hj => absurd hj (Nat.not_lt_zero _)⟩
  | i + 1, h => by
    obtain ⟨h1, h2⟩ := keysF_all (i := i) fun j hj => h j (by omega)
    unfold keysF
    rw [if_pos (h i (by omega))]
    refine ⟨by simp [h1], fun j hj => ?_⟩
    rw [List.getD_eq_getElem?_getD]
    by_cases e : j < i
    · rw [List.getElem?_append_left (by omega), ← List.getD_eq_getElem?_getD]; exact h2 j e
    · obtain rfl : j = i := by omega
      rw [List.getElem?_append_right (by omega), h1, Nat.sub_self]; rfl
theorem keysF_but {f : Nat → Pl} {a : Nat} (ha : (f a).has = false) : ∀ {i : Nat}, (∀ j, j < i → j ≠ a → (f j).has = true) → (keysF f i).length = if a < i then i - 1 else i
  | 0, _ => by simp [keysF]
  | i + 1, h => by
    have h1 := keysF_but ha (i := i) fun j hj => h j (by omega)
    unfold keysF
    by_cases e : i = a
    · subst e
      rw [ha, if_neg (by decide), h1, if_neg (by omega), if_pos (by omega)]; rfl
    · rw [if_pos (h i (by omega) e)]
      rw [List.length_append, h1]
      simp only [List.length_cons, List.length_nil]
      by_cases h2 : a < i
      · rw [if_pos h2, if_pos (by omega)]; omega
      · rw [if_neg h2, if_neg (by omega)]
theorem keysF_in {f : Nat → Pl} : ∀ {i j : Nat}, j < (keysF f i).length → ∃ p, p < i ∧ (f p).has = true ∧ (f p).k = (keysF f i).getD j 0
  | 0, j, h => by simp [keysF] at h
  | i + 1, j, h => by
    unfold keysF at h ⊢
    split at h
    · rename_i hh
      rw [if_pos hh]
      rw [List.getD_eq_getElem?_getD]
      by_cases e : j < (keysF f i).length
      · obtain ⟨p, h1, h2, h3⟩ := keysF_in e
        rw [List.getElem?_append_left e, ← List.getD_eq_getElem?_getD]
        exact ⟨p, by omega, h2, h3⟩
      · have : j = (keysF f i).length := by simp at h; omega
        rw [List.getElem?_append_right (by omega), this, Nat.sub_self]
        exact ⟨i, by omega, hh, rfl⟩
    · rename_i hh
      rw [if_neg hh]
      obtain ⟨p, h1, h2, h3⟩ := keysF_in h
      exact ⟨p, by omega, h2, h3⟩
/-- Where the hand comes to rest there are no pins. -/
theorem turnR_rests {n : Nat} : ∀ (m : Nat) {at' : Nat} {f : Nat → Pl}, stops n m at' f → (f (turnR n m at' f).1).pins = 0
  | 0, _, _, h => h.elim
  | m + 1, at', f, h => by
    unfold turnR
    by_cases hr : rests f at' = true
    · rw [if_pos hr]
      simp [rests] at hr
      exact hr.1
    · rw [if_neg hr]
      have := turnR_rests (n := n) m (h.resolve_left hr)
      rwa [passed_pins] at this
end Sx

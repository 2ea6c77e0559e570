/- Regions that draw their order: pairs of operations that do not touch one another's places may change places. -/
import Derived.Test.YtbhefgajgdcajaaSxSnd12
set_option linter.unusedVariables false
set_option linter.unusedSimpArgs false
namespace Sx
open Go

/-! ### what an operation yields hangs on its operands alone -/
theorem fillC_congr {ρ ρ' : Operand → SV} : ∀ (ps : List (Nat × Nat × Operand)) (l : List CV), (∀ x ∈ ps.map (·.2.2), ρ x = ρ' x) → fillC ρ ps l = fillC ρ' ps l
  | [], _, _ => rfl
  | (a, b, x) :: ps, l, h => by
    simp only [fillC, h x (by simp)]
    split
    · split
      · exact fillC_congr ps _ (fun y hy => h y (by simp only [List.map_cons]; exact List.mem_cons_of_mem _ hy))
      · rfl
    · rfl

theorem cvs_congr {ρ ρ' : Operand → SV} : ∀ (xs : List Operand), (∀ x ∈ xs, ρ x = ρ' x) → cvs ρ xs = cvs ρ' xs
  | [], _ => rfl
  | x :: xs, h => by simp only [cvs, h x (by simp), cvs_congr xs (fun y hy => h y (by simp [hy]))]

theorem ints_congr {ρ ρ' : Operand → SV} : ∀ (xs : List Operand), (∀ x ∈ xs, ρ x = ρ' x) → ints ρ xs = ints ρ' xs
  | [], _ => rfl
  | x :: xs, h => by simp only [ints, h x (by simp), ints_congr xs (fun y hy => h y (by simp [hy]))]

theorem oint_congr {ρ ρ' : Operand → SV} {d : Int} {x : Option Operand} (h : ∀ y ∈ oo x, ρ y = ρ' y) : oint ρ d x = oint ρ' d x := by
  cases x with
  | none => rfl
  | some y => simp only [oint, h y (by simp [oo])]

theorem opFn_congr {ρ ρ' : Operand → SV} {so : SOp} {rs : List (Nat × Res)} {n : Nat} (h : ∀ x ∈ so.operands, ρ x = ρ' x) : opFn ρ so rs n = opFn ρ' so rs n ∧ need ρ so = need ρ' so := by
  cases so
  case build z ps =>
    refine ⟨?_, rfl⟩
    simp only [opFn, fillC_congr ps _ h]
  case bslice sz len z ps =>
    refine ⟨?_, rfl⟩
    simp only [opFn]
    rw [fillC_congr (ρ := ρ) (ρ' := ρ') _ _ (fun x hx => h x (by simpa [SOp.operands] using hx))]
  case mkfn f a b =>
    refine ⟨?_, rfl⟩
    simp only [opFn, cvs_congr a (fun x hx => h x (List.mem_append_left _ hx)), cvs_congr b (fun x hx => h x (List.mem_append_right _ hx))]
  case minmax m xs =>
    refine ⟨?_, rfl⟩
    simp only [opFn, ints_congr xs h]
  case call f args => exact ⟨rfl, rfl⟩
  case sliceS x lo hi =>
    have hx := h x (by simp [SOp.operands])
    refine ⟨?_, rfl⟩
    simp only [opFn, hx]
    split
    · rw [oint_congr (ρ := ρ) (ρ' := ρ') (fun y hy => h y (by simp [SOp.operands, hy])), oint_congr (ρ := ρ) (ρ' := ρ') (x := hi) (fun y hy => h y (by simp [SOp.operands, hy]))]
    · rfl
  case sliceL sz x lo hi mx =>
    have hx := h x (by simp [SOp.operands])
    refine ⟨?_, rfl⟩
    have e1 : ∀ d, oint ρ d lo = oint ρ' d lo := fun d => oint_congr (fun y hy => h y (by simp [SOp.operands, hy]))
    have e2 : ∀ d, oint ρ d hi = oint ρ' d hi := fun d => oint_congr (fun y hy => h y (by simp [SOp.operands, hy]))
    cases mx with
    | none =>
      simp only [opFn, hx, e1, e2]
      split
      · split
        · generalize oint ρ' 0 lo = A
          generalize oint ρ' _ hi = B
          cases A <;> cases B <;> rfl
        · rfl
      · split
        · generalize oint ρ' 0 lo = A
          generalize oint ρ' _ hi = B
          cases A <;> cases B <;> rfl
        · rfl
      · generalize oint ρ' 0 lo = A
        generalize oint ρ' _ hi = B
        cases A <;> cases B <;> rfl
      · rfl
    | some y =>
      have e3 : ∀ d, oint ρ d (some y) = oint ρ' d (some y) := fun d => oint_congr (fun z hz => h z (by simp only [SOp.operands]; simp [hz]))
      simp only [opFn, hx, e1, e2]
      split
      · split
        · generalize oint ρ' 0 lo = A
          generalize oint ρ' _ hi = B
          cases A <;> cases B <;> simp only [e3]
        · rfl
      · split
        · generalize oint ρ' 0 lo = A
          generalize oint ρ' _ hi = B
          cases A <;> cases B <;> simp only [e3]
        · rfl
      · generalize oint ρ' 0 lo = A
        generalize oint ρ' _ hi = B
        cases A <;> cases B <;> simp only [e3]
      · rfl
  case sliceA m sz x lo hi =>
    have hx := h x (by simp [SOp.operands])
    have e1 : ∀ d, oint ρ d lo = oint ρ' d lo := fun d => oint_congr (fun y hy => h y (by simp [SOp.operands, hy]))
    have e2 : ∀ d, oint ρ d hi = oint ρ' d hi := fun d => oint_congr (fun y hy => h y (by simp [SOp.operands, hy]))
    refine ⟨by simp only [opFn, hx, e1, e2], by simp only [need, hx]⟩
  all_goals
    simp only [SOp.operands, List.mem_cons, List.not_mem_nil, or_false, forall_eq_or_imp, forall_eq] at h
    first
      | (refine ⟨?_, ?_⟩ <;> simp only [opFn, need, h]; done)
      | exact ⟨rfl, rfl⟩

end Sx

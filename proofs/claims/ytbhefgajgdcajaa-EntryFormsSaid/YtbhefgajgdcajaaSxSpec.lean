/- Contracts, and a call met by its contract. -/
import Derived.Test.YtbhefgajgdcajaaSxRen
set_option linter.unusedVariables false
set_option linter.unusedSimpArgs false
namespace Sx
open Go

def getR (ρ : List Res) : Nat → Res := fun i => ρ.getD i .gone

def owned : Res → Bool
  | .ro _ _ _ | .frz _ _ _ | .gone => false
  | _ => true

def isRo : Res → Bool
  | .ro _ _ _ => true
  | _ => false

/-- A function's contract: from whatever world fits the arguments' state, it comes back with what meets 'post'. -/
def Spec (P : Program) (id : FuncId) (args : List SV) (ρ : List Res) (post : SV → List Res → Prop) : Prop :=
  ∀ (hf : Fr) (w : World) (β : Env) (h : Nat → Hp) (vs : List Value), Rel hf w β (getR ρ) h → (∀ i, ρ.length ≤ i → β i = none) → SV.DenL β args vs →
    Calls P id (List.toArray vs) w fun e w' => ∃ v rv ρ' β' h', e = .returned rv ∧ post v ρ' ∧ SV.Den β' v rv ∧ (∀ i, i < ρ.length → β' i = β i) ∧ (∀ i, ρ'.length ≤ i → β' i = none) ∧ Rel hf w' β' (getR ρ') h' ∧
      ρ.length ≤ ρ'.length ∧ ρ'.length ≤ ρ.length + 8 ∧ (∀ j, j < ρ'.length → (ρ.length ≤ j ∨ owned (getR ρ j) = true) → isRo (getR ρ' j) = false) ∧ Ext w w'

/-- What a caller has, and what the callee wants: given, or lent. -/
def fit (ν : Nat → Option Nat) : Res → Res → Prop
  | .gone, _ => True
  | .ro sz m g, .ro sz' m' f => sz' = sz ∧ m ≤ m' ∧ ∀ i, i < m → CV.renL ν (f i) = g i
  | .ro sz m g, .recs sz' m' f => sz' = sz ∧ m ≤ m' ∧ ∀ i, i < m → CV.renL ν (f i) = g i
  | .ro sz m g, .cells l => 0 < sz ∧ m * sz ≤ l.length ∧ ∀ i, i < m → CV.renL ν ((l.drop (i * sz)).take sz) = g i
  | .ro sz m g, .frz sz' m' f => sz' = sz ∧ m ≤ m' ∧ ∀ i, i < m → f i = g i
  | .frz sz m g, .frz sz' m' f => sz' = sz ∧ m ≤ m' ∧ ∀ i, i < m → f i = g i
  | .cells l0, .cells l => CV.renL ν l = l0
  | .recs sz m g, .recs sz' m' f => sz' = sz ∧ m ≤ m' ∧ ∀ i, i < m → CV.renL ν (f i) = g i
  | .recs sz m g, .cells l => 0 < sz ∧ m * sz ≤ l.length ∧ ∀ i, i < m → CV.renL ν ((l.drop (i * sz)).take sz) = g i
  | .rmap l0, .rmap l => l0 = l
  | .chan c0 q0, .chan c q => c0 = c ∧ q0 = q
  | _, _ => False

theorem fit_sat {hf : Fr} {β β' : Env} {ν : Nat → Option Nat} (hv : Env.via β β' ν) {r0 R : Res} {bd : Option Bd} {p : Hp} (hf0 : fit ν r0 R) (ho : owned r0 = true) (hs : R.Sat hf β bd p) (hf' : Fr) : r0.Sat hf' β' bd p := by
  cases r0 <;> first | (simp [owned] at ho; done) | skip
  all_goals cases R <;> first | exact hf0.elim | skip
  · rename_i l0 l
    subst hf0
    exact Res.sat_ren hv (fun _ _ _ h => by cases h) hs (r := .cells l)
  · rename_i sz m g l
    obtain ⟨h0, h1, h2⟩ := hf0
    obtain ⟨b, vs, t, fr, e1, e2, e3, e4⟩ := hs
    have hlen := CV.denL_length _ _ e2
    exact ⟨h0, some ⟨b, 0, none⟩, l.length, e1, h1, .inr ⟨b, vs, t, fr, rfl, hlen, e3, e4, fun i hi => by
      rw [← h2 i hi]; exact CV.denL_ren hv _ _ (CV.denL_take _ _ _ (CV.denL_drop _ _ _ e2))⟩⟩
  · rename_i sz m g sz' m' f
    obtain ⟨rfl, h1, h2⟩ := hf0
    obtain ⟨h0, ad, cap, e1, e2, e3⟩ := hs
    refine ⟨h0, ad, cap, e1, Nat.le_trans (Nat.mul_le_mul_right _ h1) e2, ?_⟩
    rcases e3 with e3 | ⟨b, vs, t, fr, k1, k2, k3, k4, k5⟩
    · exact .inl e3
    · exact .inr ⟨b, vs, t, fr, k1, k2, k3, k4, fun i hi => by rw [← h2 i hi]; exact CV.denL_ren hv _ _ (k5 i (by omega))⟩
  · subst hf0; exact hs
  · obtain ⟨rfl, rfl⟩ := hf0; exact hs

theorem hcell_single {b k : Nat} {vs : Array Value} {t : TypeId} {fr : Nat × Nat} : hcell (single b (.cells vs t fr)) ⟨b, k, none⟩ = vs[k]? := by
  simp [hcell, single]

theorem lend_sat {hf hf' : Fr} {β β' : Env} {ν : Nat → Option Nat} (hv : Env.via β β' ν) {sz m : Nat} {g : Nat → List CV} {R : Res} {bd : Option Bd} {p q : Hp} (hf0 : fit ν (.ro sz m g) R) (hs : R.Sat hf β bd p)
    (h1 : ∀ b o, hf b = some o → hf' b = some o) (h3 : ∀ b o, β.mem b = some o → hf' b = some o) (h2 : owned R = true → ∀ b o, p b = some o → hf' b = some o) : (Res.ro sz m g).Sat hf' β' bd q := by
  cases R <;> first | exact hf0.elim | skip
  · rename_i l
    obtain ⟨h0, k1, k2⟩ := hf0
    obtain ⟨b, vs, t, fr, e1, e2, e3, e4⟩ := hs
    have hlen := CV.denL_length _ _ e2
    refine ⟨h0, some ⟨b, 0, none⟩, l.length, e1, k1, .inr ⟨_, rfl, rfl, fun i hi => ?_⟩⟩
    have hb : i * sz + sz ≤ m * sz := by
      have := Nat.mul_le_mul_right sz (Nat.succ_le_of_lt hi)
      simpa [Nat.succ_mul] using this
    refine ⟨(vs.drop (i * sz)).take sz, by simp; omega, by rw [← k2 i hi]; exact CV.denL_ren hv _ _ (CV.denL_take _ _ _ (CV.denL_drop _ _ _ e2)), fun j hj => ?_⟩
    rw [row_get _ _ _ _ hj, add_none, Nat.zero_add]
    have : (vs.toArray)[i * sz + j]? = vs[i * sz + j]? := by simp
    rw [List.getElem?_eq_getElem (by omega)] at this ⊢
    exact hcell_sub (h2 rfl) (by rw [e3, hcell_single]; exact this)
  · rename_i sz' m' f
    obtain ⟨rfl, k1, k2⟩ := hf0
    obtain ⟨h0, ad, cap, e1, e2, e3⟩ := hs
    refine ⟨h0, ad, cap, e1, Nat.le_trans (Nat.mul_le_mul_right _ k1) e2, ?_⟩
    rcases e3 with e3 | ⟨b, vs, t, fr, c1, c2, c3, c4, c5⟩
    · left
      subst e3
      have : m' * sz' = 0 := by omega
      have : m' = 0 := by rcases Nat.mul_eq_zero.1 this with h | h <;> omega
      omega
    · refine .inr ⟨_, c1, rfl, fun i hi => ?_⟩
      have hb : i * sz' + sz' ≤ m' * sz' := by
        have := Nat.mul_le_mul_right sz' (show i + 1 ≤ m' by omega)
        simpa [Nat.add_mul] using this
      refine ⟨(vs.drop (i * sz')).take sz', by simp; omega, by rw [← k2 i hi]; exact CV.denL_ren hv _ _ (c5 i (by omega)), fun j hj => ?_⟩
      rw [row_get _ _ _ _ hj, add_none, Nat.zero_add]
      have : (vs.toArray)[i * sz' + j]? = vs[i * sz' + j]? := by simp
      rw [List.getElem?_eq_getElem (by omega)] at this ⊢
      exact hcell_sub (h2 rfl) (by rw [c3, hcell_single]; exact this)
  · rename_i sz' m' f
    obtain ⟨rfl, k1, k2⟩ := hf0
    obtain ⟨h0, ad, cap, e1, e2, e3⟩ := hs
    refine ⟨h0, ad, cap, e1, Nat.le_trans (Nat.mul_le_mul_right _ k1) e2, ?_⟩
    rcases e3 with e3 | ⟨a, c1, c2, c3⟩
    · left; omega
    · refine .inr ⟨a, c1, c2, fun i hi => ?_⟩
      obtain ⟨vs, d1, d2, d3⟩ := c3 i (by omega)
      refine ⟨vs, d1, by rw [← k2 i hi]; exact CV.denL_ren hv _ _ d2, fun j hj => ?_⟩
      have := d3 j hj
      rw [List.getElem?_eq_getElem (by omega)] at this ⊢
      exact hcell_sub h1 this
  · rename_i sz' m' f
    obtain ⟨rfl, k1, k2⟩ := hf0
    obtain ⟨h0, ad, cap, e1, e2, e3⟩ := hs
    refine ⟨h0, ad, cap, e1, Nat.le_trans (Nat.mul_le_mul_right _ k1) e2, ?_⟩
    rcases e3 with e3 | ⟨a, c1, c2, c3⟩
    · left; omega
    · refine .inr ⟨a, c1, c2, fun i hi => ?_⟩
      obtain ⟨vs, d1, d2, d3⟩ := c3 i (by omega)
      refine ⟨vs, d1, by rw [← k2 i hi]; exact CV.denL_le (Env.le_trans (Env.le_bare hv.mem) (Env.bare_le β')) _ _ d2, fun j hj => ?_⟩
      have := d3 j hj
      rw [List.getElem?_eq_getElem (by omega)] at this ⊢
      exact hcell_sub h3 this

theorem fit_frz {hf hf' : Fr} {β β' : Env} {ν : Nat → Option Nat} (hv : Env.via β β' ν) {sz m : Nat} {g : Nat → List CV} {R : Res} {bd : Option Bd} {p q : Hp} (hf0 : fit ν (.frz sz m g) R) (hs : R.Sat hf β bd p) : (Res.frz sz m g).Sat hf' β' bd q := by
  cases R <;> first | exact hf0.elim | skip
  rename_i sz' m' f
  obtain ⟨rfl, k1, k2⟩ := hf0
  obtain ⟨h0, ad, cap, e1, e2, e3⟩ := Res.sat_mem (hf' := hf') (p' := q) hv.mem hs
  refine ⟨h0, ad, cap, e1, Nat.le_trans (Nat.mul_le_mul_right _ k1) e2, ?_⟩
  rcases e3 with e3 | ⟨a, c1, c2, c3⟩
  · left; omega
  · exact .inr ⟨a, c1, c2, fun i hi => by rw [← k2 i hi]; exact c3 i (by omega)⟩

/-- Two memories that agree where both have something. -/
def uni (a b : Hp) : Hp := fun x => match a x with
  | some o => some o
  | none => b x

/-- The frame as the callee sees it: all that is not given to it. -/
noncomputable def frameOf (hu : Hp) (h : Nat → Hp) (G : Nat → Prop) : Hp := fun b =>
  match hu b with
  | some o => some o
  | none => open Classical in if hex : ∃ i, ¬ G i ∧ (h i b).isSome then h (Classical.choose hex) b else none

section
variable {hf : Fr} {w : World} {β : Env} {res : Nat → Res} {h : Nat → Hp} {G : Nat → Prop}

theorem uni_none (hr : Rel hf w β res h) {i b : Nat} (hb : h i b ≠ none) : uni hf.hp β.mem b = none := by
  unfold uni
  rw [show hf.hp b = none from hr.apart i b hb]
  exact hr.fzn.own i b hb
theorem uni_hf {b : Nat} {o : Obj} (hb : hf.hp b = some o) : uni hf.hp β.mem b = some o := by simp [uni, hb]
theorem uni_some (hr : Rel hf w β res h) {b : Nat} {o : Obj} (hb : uni hf.hp β.mem b = some o) : w.heap[b]? = some o := by
  unfold uni at hb
  split at hb
  · rename_i o' he; simp only [Option.some.injEq] at hb; subst hb; exact hr.frame _ _ he
  · exact hr.fzn.sub _ _ hb
theorem uni_mem (hr : Rel hf w β res h) {b : Nat} {o : Obj} (hb : β.mem b = some o) : uni hf.hp β.mem b = some o := by
  cases hq : hf.hp b with
  | none => simp [uni, hq, hb]
  | some o' =>
    have h1 := hr.frame _ _ hq
    have h2 := hr.fzn.sub _ _ hb
    rw [h1] at h2
    simp only [Option.some.injEq] at h2; subst h2
    simp [uni, hq]

theorem frame_hf {b : Nat} {o : Obj} (hb : uni hf.hp β.mem b = some o) : frameOf (uni hf.hp β.mem) h G b = some o := by simp [frameOf, hb]

theorem frame_own (hr : Rel hf w β res h) {i b : Nat} {o : Obj} (hi : ¬ G i) (hb : h i b = some o) : frameOf (uni hf.hp β.mem) h G b = some o := by
  have hn : uni hf.hp β.mem b = none := uni_none hr (i := i) (by rw [hb]; simp)
  unfold frameOf
  simp only [hn]
  have hex : ∃ i, ¬ G i ∧ (h i b).isSome := ⟨i, hi, by rw [hb]; rfl⟩
  rw [dif_pos hex]
  have hc := Classical.choose_spec hex
  by_cases he : Classical.choose hex = i
  · rw [he]; exact hb
  · have := hr.disj i _ b (Ne.symm he) (by rw [hb]; simp)
    rw [this] at hc
    simp at hc

theorem frame_none (hr : Rel hf w β res h) {i b : Nat} (hi : G i) (hb : h i b ≠ none) : frameOf (uni hf.hp β.mem) h G b = none := by
  have hn : uni hf.hp β.mem b = none := uni_none hr hb
  unfold frameOf
  simp only [hn]
  split
  · rename_i hex
    have hc := Classical.choose_spec hex
    have hne : i ≠ Classical.choose hex := fun e => hc.1 (e ▸ hi)
    have := hr.disj i _ b hne hb
    rw [this] at hc
    simp at hc
  · rfl

theorem frame_some {b : Nat} {o : Obj} (hb : frameOf (uni hf.hp β.mem) h G b = some o) : uni hf.hp β.mem b = some o ∨ ∃ i, ¬ G i ∧ h i b = some o := by
  unfold frameOf at hb
  split at hb
  · rename_i o' he; simp only [Option.some.injEq] at hb; subst hb; exact .inl he
  · split at hb
    · rename_i hex
      exact .inr ⟨_, (Classical.choose_spec hex).1, hb⟩
    · cases hb
end

end Sx

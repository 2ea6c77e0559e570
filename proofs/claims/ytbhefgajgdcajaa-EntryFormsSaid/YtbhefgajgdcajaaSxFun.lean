/- Functions under the engine: states told otherwise, loops by what holds round by round, contracts out of formulas. -/
import Derived.Test.YtbhefgajgdcajaaSxWp
set_option linter.unusedVariables false
set_option linter.unusedSimpArgs false
namespace Sx
open Go

/-- No new names. -/
def noNm : Nat → Option Nat := fun _ => none

mutual
/-- A value in memory that is never written again, told otherwise: the new telling, the old one. -/
def cvZ : CV → CV → Prop
  | .any, _ => True
  | .rsl sz n mc g, d => d = .rsl sz n mc g ∨ (match d with
    | .val (.slice none 0 0) => n = 0 ∧ 0 < sz ∧ ∀ m, mc = some m → m = 0
    | .rsl sz' n' mc' f => sz' = sz ∧ n' = n ∧ (mc = none ∨ mc' = mc) ∧ ∀ i, i < n → cvsZ (g i) (f i)
    | _ => False)
  | c, d => d.ren noNm = c
def cvsZ : List CV → List CV → Prop
  | [], [] => True
  | a :: l, b :: m => cvZ a b ∧ cvsZ l m
  | _, _ => False
end

/-- One value, told otherwise: the new telling, the old one. A nil slice may be told as a row of no places, under one of the names from lo to hi; what lies in memory that is never written again may be told by what it says. -/
def cvW (rs : List (Nat × Res)) (ν : Nat → Option Nat) (lo hi : Nat) : CV → CV → Prop
  | .any, _ => True
  | .rsl sz n mc g, d => d = .rsl sz n mc g ∨ (match d with
    | .val (.slice none 0 0) => n = 0 ∧ 0 < sz ∧ ∀ m, mc = some m → m = 0
    | .rsl sz' n' mc' f => sz' = sz ∧ n' = n ∧ (mc = none ∨ mc' = mc) ∧ ∀ i, i < n → cvsZ (g i) (f i)
    | .slc j sz' lo0 n' _ => sz' = sz ∧ n' = n ∧ mc = none ∧ (match lk rs j with
      | .frz sz'' m f => sz'' = sz ∧ lo0 + n ≤ m ∧ ((∀ i, i < n → f (lo0 + i) = g i) ∨ ∀ i, i < n → cvsZ (g i) (f (lo0 + i)))
      | _ => False)
    | _ => False)
  | .slc j sz lo0 n mc, d => d.ren ν = .slc j sz lo0 n mc ∨ (d = .val (.slice none 0 0) ∧ lo0 = 0 ∧ n = 0 ∧ mc = none ∧ lo ≤ j ∧ j < hi ∧ 0 < sz)
  | c, d => d.ren ν = c

def cvsW (rs : List (Nat × Res)) (ν : Nat → Option Nat) (lo hi : Nat) : List CV → List CV → Prop
  | [], [] => True
  | a :: l, b :: m => cvW rs ν lo hi a b ∧ cvsW rs ν lo hi l m
  | _, _ => False

mutual
def slotW (rs : List (Nat × Res)) (ν : Nat → Option Nat) (lo hi : Nat) : SV → SV → Prop
  | .any, _ => True
  | .cv c, .cv d => cvW rs ν lo hi c d
  | .agg l, .agg m => cvsW rs ν lo hi l m
  | .tup l, .tup m => slotsW rs ν lo hi l m
  | _, _ => False
def slotsW (rs : List (Nat × Res)) (ν : Nat → Option Nat) (lo hi : Nat) : List SV → List SV → Prop
  | [], [] => True
  | a :: l, b :: m => slotW rs ν lo hi a b ∧ slotsW rs ν lo hi l m
  | _, _ => False
end

/-- Rows, told otherwise. -/
def rowsW (rs : List (Nat × Res)) (ν : Nat → Option Nat) (lo hi m : Nat) (g f : Nat → List CV) : Prop :=
  (∀ i, i < m → CV.renL ν (f i) = g i) ∨ ∀ i, i < m → cvsW rs ν lo hi (g i) (f i)

/-- One resource, told otherwise: the new telling, the old one. -/
def retell (rs : List (Nat × Res)) (ν : Nat → Option Nat) (lo hi : Nat) : Res → Res → Prop
  | .gone, _ => True
  | .ro sz m g, .ro sz' m' f => sz' = sz ∧ m ≤ m' ∧ rowsW rs ν lo hi m g f
  | .frz sz m g, .frz sz' m' f => sz' = sz ∧ m ≤ m' ∧ ((∀ i, i < m → f i = g i) ∨ ∀ i, i < m → cvsZ (g i) (f i))
  | .cells l0, .cells l => cvsW rs ν lo hi l0 l
  | .recs sz m g, .recs sz' m' f => sz' = sz ∧ m ≤ m' ∧ rowsW rs ν lo hi m g f
  | .recs sz m g, .cells l => 0 < sz ∧ m * sz ≤ l.length ∧ rowsW rs ν lo hi m g (fun i => (l.drop (i * sz)).take sz)
  | .rmap l0, .rmap l => l = l0
  | .chan c0 q0, .chan c q => c = c0 ∧ q = q0
  | _, _ => False

mutual
theorem cvZ_den {β : Env} : ∀ (c d : CV) (x : Value), cvZ c d → CV.Den β.bare d x → CV.Den β.bare c x
  | .any, d, x, _, hd => CV.den_plain _ _ hd
  | .rsl sz n mc g, d, x, h, hd => by
    simp only [cvZ] at h
    rcases h with rfl | h
    · exact hd
    · split at h
      · obtain ⟨rfl, h2, h3⟩ := h
        obtain ⟨rfl, _⟩ := hd
        exact ⟨h2, none, 0, rfl, Nat.le_refl _, fun m hm => (h3 m hm).symm, .inl rfl⟩
      · rename_i sz' n' mc' f
        obtain ⟨rfl, rfl, h3, h4⟩ := h
        obtain ⟨k0, ad, cap, k1, k2, k3, k4⟩ := hd
        refine ⟨k0, ad, cap, k1, k2, fun m hm => ?_, ?_⟩
        · rcases h3 with h3 | h3
          · rw [h3] at hm; cases hm
          · exact k3 m (h3.trans hm)
        · rcases k4 with k4 | ⟨a, e1, e2, e3⟩
          · exact .inl k4
          · refine .inr ⟨a, e1, e2, fun i hi => ?_⟩
            obtain ⟨vs, q1, q2, q3⟩ := e3 i hi
            exact ⟨vs, q1, cvsZ_den (β := β) (g i) (f i) vs (h4 i hi) q2, q3⟩
      · exact h.elim
  | .val v, d, x, h, hd => by
    have h1 : d.ren noNm = .val v := h
    rw [← h1]; exact CV.den_ren ⟨fun _ _ _ h => (by cases h), fun _ _ h => h⟩ d x hd
  | .ptr i sz idx fld, d, x, h, hd => by
    have h1 : d.ren noNm = .ptr i sz idx fld := h
    rw [← h1]; exact CV.den_ren ⟨fun _ _ _ h => (by cases h), fun _ _ h => h⟩ d x hd
  | .slc i sz lo len mc, d, x, h, hd => by
    have h1 : d.ren noNm = .slc i sz lo len mc := h
    rw [← h1]; exact CV.den_ren ⟨fun _ _ _ h => (by cases h), fun _ _ h => h⟩ d x hd
  | .mp i, d, x, h, hd => by
    have h1 : d.ren noNm = .mp i := h
    rw [← h1]; exact CV.den_ren ⟨fun _ _ _ h => (by cases h), fun _ _ h => h⟩ d x hd
  | .ch i, d, x, h, hd => by
    have h1 : d.ren noNm = .ch i := h
    rw [← h1]; exact CV.den_ren ⟨fun _ _ _ h => (by cases h), fun _ _ h => h⟩ d x hd
  | .num i, d, x, h, hd => by
    have h1 : d.ren noNm = .num i := h
    rw [← h1]; exact CV.den_ren ⟨fun _ _ _ h => (by cases h), fun _ _ h => h⟩ d x hd
  | .fn f a b, d, x, h, hd => by
    have h1 : d.ren noNm = .fn f a b := h
    rw [← h1]; exact CV.den_ren ⟨fun _ _ _ h => (by cases h), fun _ _ h => h⟩ d x hd
  | .rp l, d, x, h, hd => by
    have h1 : d.ren noNm = .rp l := h
    rw [← h1]; exact CV.den_ren ⟨fun _ _ _ h => (by cases h), fun _ _ h => h⟩ d x hd
  | .nq n, d, x, h, hd => by
    have h1 : d.ren noNm = .nq n := h
    rw [← h1]; exact CV.den_ren ⟨fun _ _ _ h => (by cases h), fun _ _ h => h⟩ d x hd
theorem cvsZ_den {β : Env} : ∀ (l m : List CV) (xs : List Value), cvsZ l m → CV.DenL β.bare m xs → CV.DenL β.bare l xs
  | [], [], _, _, hd => hd
  | a :: l, b :: m, x :: xs, h, hd => ⟨cvZ_den a b x h.1 hd.1, cvsZ_den l m xs h.2 hd.2⟩
  | a :: l, b :: m, [], _, hd => hd.elim
  | [], _ :: _, _, h, _ => h.elim
  | _ :: _, [], _, h, _ => h.elim
end

/-- What frozen names say holds. -/
def FrzOk (β : Env) (rs : List (Nat × Res)) : Prop := ∀ j sz m f, lk rs j = .frz sz m f → (Res.frz sz m f).Sat ⟨fun _ => none, fun _ => none⟩ β (β j) (fun _ => none)

section
variable {rs : List (Nat × Res)} {ν : Nat → Option Nat} {lo hi : Nat} {β β' : Env}

theorem cvW_den (hv : Env.via β β' ν) (hz : FrzOk β rs) (hβ : ∀ j, lo ≤ j → j < hi → β' j = some ⟨none, 0⟩) {c d : CV} {x : Value} (h : cvW rs ν lo hi c d) (hd : CV.Den β d x) : CV.Den β' c x := by
  have hbare : ∀ {l : List CV} {vs : List Value}, CV.DenL β.bare l vs → CV.DenL β'.bare l vs := fun h => CV.denL_le (Env.le_bare hv.mem) _ _ h
  unfold cvW at h
  split at h
  · exact CV.den_plain _ _ hd
  · rename_i sz n mc g
    rcases h with rfl | h
    · exact CV.den_mem hv.mem trivial hd
    · split at h
      · obtain ⟨rfl, h2, h3⟩ := h
        obtain ⟨rfl, _⟩ := hd
        exact ⟨h2, none, 0, rfl, Nat.le_refl _, fun m hm => (h3 m hm).symm, .inl rfl⟩
      · rename_i sz' n' mc' f
        obtain ⟨rfl, rfl, h3, h4⟩ := h
        have hd' : CV.Den β' (.rsl sz' n' mc' f) x := CV.den_mem hv.mem trivial hd
        obtain ⟨k0, ad, cap, k1, k2, k3, k4⟩ := hd'
        refine ⟨k0, ad, cap, k1, k2, fun m hm => ?_, ?_⟩
        · rcases h3 with h3 | h3
          · rw [h3] at hm; cases hm
          · exact k3 m (h3.trans hm)
        · rcases k4 with k4 | ⟨a, e1, e2, e3⟩
          · exact .inl k4
          · refine .inr ⟨a, e1, e2, fun i hi => ?_⟩
            obtain ⟨vs, q1, q2, q3⟩ := e3 i hi
            exact ⟨vs, q1, cvsZ_den (g i) (f i) vs (h4 i hi) q2, q3⟩
      · rename_i j sz' lo0 n' mc'
        obtain ⟨rfl, rfl, rfl, h4⟩ := h
        split at h4
        case h_2 => exact h4.elim
        rename_i sz'' m f hlk
        obtain ⟨rfl, h5, h6⟩ := h4
        have hs := Res.sat_mem (hf' := ⟨fun _ => none, fun _ => none⟩) (p' := fun _ => none) hv.mem (hz j _ _ _ hlk)
        obtain ⟨ad, cap, hb, hle, hpos, hmc, ad', hx, haddr⟩ := hd
        obtain ⟨k0, ad2, cap2, e1, e2, e3⟩ := hs
        rw [hb] at e1
        simp only [Option.some.injEq, Bd.mk.injEq] at e1
        obtain ⟨rfl, rfl⟩ := e1
        have hcap : n' ≤ mc'.getD (cap / sz'' - lo0) := by
          cases mc' with
          | none =>
            simp only [Option.getD_none]
            have : (lo0 + n') ≤ cap / sz'' := (Nat.le_div_iff_mul_le hpos).2 hle
            omega
          | some m => exact (hmc m rfl).1
        refine ⟨k0, ad', _, hx, hcap, fun m hm => (by cases hm), ?_⟩
        by_cases hn0 : n' = 0
        · exact .inl hn0
        · obtain ⟨a, ha, ha'⟩ := haddr (by omega)
          rcases e3 with e3 | ⟨a2, c1, c2, c3⟩
          · omega
          · rw [ha] at c1
            simp only [Option.some.injEq] at c1; subst c1
            refine .inr ⟨_, ha', add_spot c2 _, fun i hi => ?_⟩
            obtain ⟨vs, q1, q2, q3⟩ := c3 (lo0 + i) (by omega)
            refine ⟨vs, q1, ?_, fun t ht => ?_⟩
            · rcases h6 with h6 | h6
              · rw [← h6 i hi]; exact q2
              · exact cvsZ_den (g i) (f (lo0 + i)) vs (h6 i hi) q2
            · rw [add_add c2, ← q3 t ht, Nat.add_mul, Nat.add_assoc]
      · exact h.elim
  · rename_i j sz lo0 n mc
    rcases h with h | ⟨rfl, rfl, rfl, rfl, h1, h2, h3⟩
    · rw [← h]; exact CV.den_ren hv d x hd
    · obtain ⟨rfl, _⟩ := hd
      exact ⟨none, 0, hβ _ h1 h2, by simp, h3, by simp, none, by simp, by simp⟩
  · rw [← h]; exact CV.den_ren hv d x hd

theorem cvsW_den (hv : Env.via β β' ν) (hz : FrzOk β rs) (hβ : ∀ j, lo ≤ j → j < hi → β' j = some ⟨none, 0⟩) : ∀ {l m : List CV} {vs : List Value}, cvsW rs ν lo hi l m → CV.DenL β m vs → CV.DenL β' l vs
  | [], [], [], _, _ => trivial
  | a :: l, b :: m, v :: vs, h, hd => ⟨cvW_den hv hz hβ h.1 hd.1, cvsW_den hv hz hβ h.2 hd.2⟩
  | a :: l, b :: m, [], _, hd => hd.elim
  | [], [], _ :: _, _, hd => hd.elim
  | [], _ :: _, _, h, _ => h.elim
  | _ :: _, [], _, h, _ => h.elim

theorem cvsW_length : ∀ {l m : List CV}, cvsW rs ν lo hi l m → l.length = m.length
  | [], [], _ => rfl
  | a :: l, b :: m, h => by simp [cvsW_length h.2]
  | [], _ :: _, h => h.elim
  | _ :: _, [], h => h.elim

mutual
theorem slotW_den (hv : Env.via β β' ν) (hz : FrzOk β rs) (hβ : ∀ j, lo ≤ j → j < hi → β' j = some ⟨none, 0⟩) : ∀ (c d : SV) (x : Value), slotW rs ν lo hi c d → SV.Den β d x → SV.Den β' c x
  | .any, _, _, _, _ => trivial
  | .cv c, .cv d, x, h, hd => cvW_den hv hz hβ h hd
  | .agg l, .agg m, x, h, hd => by
    obtain ⟨vs, e, hv'⟩ := hd
    exact ⟨vs, e, cvsW_den hv hz hβ h hv'⟩
  | .tup l, .tup m, x, h, hd => by
    obtain ⟨vs, e, hv'⟩ := hd
    exact ⟨vs, e, slotsW_den hv hz hβ l m vs h hv'⟩
  | .cv _, .any, _, h, _ => h.elim
  | .cv _, .agg _, _, h, _ => h.elim
  | .cv _, .tup _, _, h, _ => h.elim
  | .agg _, .any, _, h, _ => h.elim
  | .agg _, .cv _, _, h, _ => h.elim
  | .agg _, .tup _, _, h, _ => h.elim
  | .tup _, .any, _, h, _ => h.elim
  | .tup _, .cv _, _, h, _ => h.elim
  | .tup _, .agg _, _, h, _ => h.elim
theorem slotsW_den (hv : Env.via β β' ν) (hz : FrzOk β rs) (hβ : ∀ j, lo ≤ j → j < hi → β' j = some ⟨none, 0⟩) : ∀ (c d : List SV) (x : List Value), slotsW rs ν lo hi c d → SV.DenL β d x → SV.DenL β' c x
  | [], [], [], _, _ => trivial
  | a :: l, b :: m, v :: vs, h, hd => ⟨slotW_den hv hz hβ a b v h.1 hd.1, slotsW_den hv hz hβ l m vs h.2 hd.2⟩
  | _ :: _, _ :: _, [], _, hd => hd.elim
  | [], [], _ :: _, _, hd => hd.elim
  | [], _ :: _, _, h, _ => h.elim
  | _ :: _, [], _, h, _ => h.elim
end

theorem cvW_ren : ∀ (d : CV), cvW rs ν lo hi (d.ren ν) d
  | .any => trivial
  | .val _ => rfl
  | .ptr i sz idx fld => by simp only [CV.ren]; split <;> simp_all [cvW, CV.ren]
  | .slc i sz lo0 n mc => by simp only [CV.ren]; split <;> simp_all [cvW, CV.ren]
  | .mp i => by simp only [CV.ren]; split <;> simp_all [cvW, CV.ren]
  | .ch i => by simp only [CV.ren]; split <;> simp_all [cvW, CV.ren]
  | .num i => by simp only [CV.ren]; split <;> simp_all [cvW, CV.ren]
  | .fn _ _ _ => rfl
  | .rsl _ _ _ _ => Or.inl rfl
  | .rp _ => rfl
  | .nq _ => rfl
theorem cvsW_ren : ∀ l : List CV, cvsW rs ν lo hi (CV.renL ν l) l
  | [] => trivial
  | c :: l => ⟨cvW_ren c, cvsW_ren l⟩
mutual
theorem slotW_ren : ∀ v : SV, slotW rs ν lo hi (v.ren ν) v
  | .any => trivial
  | .cv c => cvW_ren c
  | .agg l => cvsW_ren l
  | .tup l => slotsW_ren l
theorem slotsW_ren : ∀ v : List SV, slotsW rs ν lo hi (SV.renL ν v) v
  | [] => trivial
  | v :: l => ⟨slotW_ren v, slotsW_ren l⟩
end

theorem rowsW_den (hv : Env.via β β' ν) (hz : FrzOk β rs) (hβ : ∀ j, lo ≤ j → j < hi → β' j = some ⟨none, 0⟩) {m : Nat} {g f : Nat → List CV} (h : rowsW rs ν lo hi m g f) {i : Nat} (hi : i < m) {vs : List Value} (hd : CV.DenL β (f i) vs) : CV.DenL β' (g i) vs := by
  rcases h with h | h
  · rw [← h i hi]; exact CV.denL_ren hv _ _ hd
  · exact cvsW_den hv hz hβ (h i hi) hd

theorem retell_sat (hv : Env.via β β' ν) (hz : FrzOk β rs) (hβ : ∀ j, lo ≤ j → j < hi → β' j = some ⟨none, 0⟩) {hf : Fr} {r' r : Res} {bd : Option Bd} {p : Hp} (h : retell rs ν lo hi r' r) (hs : r.Sat hf β bd p) : r'.Sat hf β' bd p := by
  cases r' with
  | gone => trivial
  | cells l0 =>
    cases r <;> first | exact h.elim | skip
    obtain ⟨b, vs, t, fr, e1, e2, e3, e4⟩ := hs
    have hl := cvsW_length h
    exact ⟨b, vs, t, fr, by rw [e1, hl], cvsW_den hv hz hβ h e2, e3, by rw [hl]; exact e4⟩
  | rmap l0 => cases r <;> first | exact h.elim | (subst h; exact hs)
  | rmapP _ _ _ => cases r <;> exact h.elim
  | chan c0 q0 => cases r <;> first | exact h.elim | (obtain ⟨rfl, rfl⟩ := h; exact hs)
  | frz sz m g =>
    cases r <;> first | exact h.elim | skip
    rename_i sz' m' f
    obtain ⟨rfl, h1, h2⟩ := h
    obtain ⟨h0, ad, cap, e1, e2, e3⟩ := Res.sat_mem (hf' := hf) (p' := p) hv.mem hs
    refine ⟨h0, ad, cap, e1, Nat.le_trans (Nat.mul_le_mul_right _ h1) e2, ?_⟩
    rcases e3 with e3 | ⟨a, c1, c2, c3⟩
    · left; omega
    · refine .inr ⟨a, c1, c2, fun i hi => ?_⟩
      obtain ⟨vs, d1, d2, d3⟩ := c3 i (by omega)
      refine ⟨vs, d1, ?_, d3⟩
      rcases h2 with h2 | h2
      · rw [← h2 i hi]; exact d2
      · exact cvsZ_den _ _ _ (h2 i hi) d2
  | ro sz m g =>
    cases r <;> first | exact h.elim | skip
    rename_i sz' m' f
    obtain ⟨rfl, h1, h2⟩ := h
    obtain ⟨h0, ad, cap, e1, e2, e3⟩ := hs
    refine ⟨h0, ad, cap, e1, Nat.le_trans (Nat.mul_le_mul_right _ h1) e2, ?_⟩
    rcases e3 with e3 | ⟨a, c1, c2, c3⟩
    · left; omega
    · refine .inr ⟨a, c1, c2, fun i hi => ?_⟩
      obtain ⟨vs, d1, d2, d3⟩ := c3 i (by omega)
      exact ⟨vs, d1, rowsW_den hv hz hβ h2 hi d2, d3⟩
  | recs sz m g =>
    cases r <;> first | exact h.elim | skip
    · rename_i l
      obtain ⟨h0, h1, h2⟩ := h
      obtain ⟨b, vs, t, fr, e1, e2, e3, e4⟩ := hs
      exact ⟨h0, some ⟨b, 0, none⟩, l.length, e1, h1, .inr ⟨b, vs, t, fr, rfl, CV.denL_length _ _ e2, e3, e4, fun i hi =>
        rowsW_den hv hz hβ h2 hi (CV.denL_take _ _ _ (CV.denL_drop _ _ _ e2))⟩⟩
    · rename_i sz' m' f
      obtain ⟨rfl, h1, h2⟩ := h
      obtain ⟨h0, ad, cap, e1, e2, e3⟩ := hs
      refine ⟨h0, ad, cap, e1, Nat.le_trans (Nat.mul_le_mul_right _ h1) e2, ?_⟩
      rcases e3 with e3 | ⟨b, vs, t, fr, k1, k2, k3, k4, k5⟩
      · exact .inl e3
      · exact .inr ⟨b, vs, t, fr, k1, k2, k3, k4, fun i hi => rowsW_den hv hz hβ h2 hi (k5 i (by omega))⟩

end

/-- A name's memory may be told as never written again. -/
def fzW (rs : List (Nat × Res)) : Res → Res → Prop
  | .frz sz n g, .recs sz' m f => sz' = sz ∧ n ≤ m ∧ rowsW rs noNm 0 0 n g f
  | .frz sz n g, .cells l => 0 < sz ∧ n * sz ≤ l.length ∧ rowsW rs noNm 0 0 n g (fun i => (l.drop (i * sz)).take sz)
  | .frz sz n g, .frz sz' m f => sz' = sz ∧ n ≤ m ∧ ((∀ i, i < n → f i = g i) ∨ ∀ i, i < n → cvsZ (g i) (f i))
  | _, _ => False

def fzL (rs : List (Nat × Res)) : List (Nat × Res) → Prop
  | [] => True
  | (j, r) :: F => fzW rs r (lk rs j) ∧ fzL (setR rs j r) F

theorem frzOk_rel {hf : Fr} {w : World} {β : Env} {rs : List (Nat × Res)} {h : Nat → Hp} (hr : Rel hf w β (lk rs) h) : FrzOk β rs := by
  intro j sz m f hj
  have := hr.sat j
  rw [hj] at this
  exact Res.sat_mem (fun _ _ h => h) this

theorem rel_fz {hf : Fr} {w : World} : ∀ (F rs : List (Nat × Res)) {β : Env} {h : Nat → Hp}, fzL rs F → Rel hf w β (lk rs) h → ∃ β' h', β'.nm = β.nm ∧ Env.le β β' ∧ Rel hf w β' (lk (setRs rs F)) h' ∧ ∀ i, i ∉ F.map (·.1) → h' i = h i
  | [], rs, β, h, _, hr => ⟨β, h, rfl, Env.le_refl β, hr, fun _ _ => rfl⟩
  | (j, r) :: F, rs, β, h, hF, hr => by
    obtain ⟨h1, h2⟩ := hF
    have hz := frzOk_rel hr
    have hvia : Env.via β β.bare noNm := ⟨fun _ _ _ h => (by cases h), fun _ _ h => h⟩
    have hno : ∀ j, 0 ≤ j → j < 0 → β.bare j = some ⟨none, 0⟩ := fun j _ h => by omega
    have key : ∃ β' h', β'.nm = β.nm ∧ Env.le β β' ∧ Rel hf w β' (up (lk rs) j r) h' ∧ ∀ i, i ≠ j → h' i = h i := by
      have hs := hr.sat j
      cases r <;> first | exact h1.elim | skip
      rename_i sz n g
      cases hrj : lk rs j <;> rw [hrj] at h1 <;> first | exact h1.elim | skip
      · rename_i l
        rw [hrj] at hs
        obtain ⟨k0, k1, k2⟩ := h1
        obtain ⟨b, vs, t, fr, e1, e2, e3, e4⟩ := hs
        have hlen := CV.denL_length _ _ e2
        refine ⟨β.more (h j), _, rfl, Env.le_more β (h j), hr.freeze (i := j) k0 e1 k1 (.inr ⟨_, rfl, rfl, fun k hk => ?_⟩), fun i hi => up_ne _ _ hi⟩
        have hb : k * sz + sz ≤ n * sz := by
          have := Nat.mul_le_mul_right sz (Nat.succ_le_of_lt hk)
          simpa [Nat.succ_mul] using this
        refine ⟨(vs.drop (k * sz)).take sz, by simp; omega, rowsW_den hvia hz hno k2 hk (CV.denL_take _ _ _ (CV.denL_drop _ _ _ e2)), fun x hx => ?_⟩
        rw [row_get _ _ _ _ hx, add_none, Nat.zero_add, e3, hcell_single]
        simp
      · rename_i sz' m f
        rw [hrj] at hs
        obtain ⟨rfl, k1, k2⟩ := h1
        obtain ⟨k0, ad, cap, e1, e2, e3⟩ := hs
        refine ⟨β.more (h j), _, rfl, Env.le_more β (h j), hr.freeze (i := j) k0 e1 (Nat.le_trans (Nat.mul_le_mul_right _ k1) e2) ?_, fun i hi => up_ne _ _ hi⟩
        rcases e3 with e3 | ⟨b, vs, t, fr, c1, c2, c3, c4, c5⟩
        · left
          subst e3
          have : m * sz' = 0 := by omega
          have : m = 0 := by rcases Nat.mul_eq_zero.1 this with h | h <;> omega
          omega
        · refine .inr ⟨_, c1, rfl, fun k hk => ?_⟩
          have hb : k * sz' + sz' ≤ m * sz' := by
            have := Nat.mul_le_mul_right sz' (show k + 1 ≤ m by omega)
            simpa [Nat.add_mul] using this
          refine ⟨(vs.drop (k * sz')).take sz', by simp; omega, rowsW_den hvia hz hno k2 hk (c5 k (by omega)), fun x hx => ?_⟩
          rw [row_get _ _ _ _ hx, add_none, Nat.zero_add, c3, hcell_single]
          simp
      · rename_i sz' m f
        rw [hrj] at hs
        obtain ⟨rfl, k1, k2⟩ := h1
        refine ⟨β, h, rfl, Env.le_refl β, hr.same ?_, fun _ _ => rfl⟩
        obtain ⟨k0, ad, cap, e1, e2, e3⟩ := hs
        refine ⟨k0, ad, cap, e1, Nat.le_trans (Nat.mul_le_mul_right _ k1) e2, ?_⟩
        rcases e3 with e3 | ⟨a, c1, c2, c3⟩
        · left; omega
        · refine .inr ⟨a, c1, c2, fun i hi => ?_⟩
          obtain ⟨vs, d1, d2, d3⟩ := c3 i (by omega)
          refine ⟨vs, d1, ?_, d3⟩
          rcases k2 with k2 | k2
          · rw [← k2 i hi]; exact d2
          · exact cvsZ_den _ _ _ (k2 i hi) d2
    obtain ⟨β1, h1', e1, e2, e3, e7⟩ := key
    rw [← lk_setR] at e3
    obtain ⟨β2, h2', e4, e5, e6, e8⟩ := rel_fz F (setR rs j r) h2 e3
    refine ⟨β2, h2', e4.trans e1, Env.le_trans e2 e5, e6, fun i hi => ?_⟩
    simp only [List.map_cons, List.mem_cons, not_or] at hi
    rw [e8 i hi.2, e7 i hi.1]

/-- What a fresh empty name may hold. -/
def emptyR : Res → Prop
  | .recs sz 0 _ => 0 < sz
  | .gone => True
  | _ => False

def ressW (ν : Nat → Option Nat) (names : List Nat) (e : Nat) (rs : List (Nat × Res)) : List (Nat × Res) → Prop
  | [] => True
  | (j, r) :: l => ((j < names.length ∧ retell rs ν names.length (names.length + e) r (lk rs (names.getD j 0))) ∨ (names.length ≤ j ∧ j < names.length + e ∧ emptyR r)) ∧ ressW ν names e rs l

def prefixB (kp : Nat) (names : List Nat) : Bool := decide (kp ≤ names.length) && (List.range kp).all fun i => names.getD i 0 == i

/-- A state told otherwise: fewer slots known, the names told anew, the resources retold; e fresh names of nothing. -/
structure WeakBy (kp : Nat) (names : List Nat) (e : Nat) (st st' : St) : Prop where
  pre : prefixB kp names = true
  nodup : nodupB names = true
  nx : st'.nx = names.length + e
  slots : slotsW st.rs (nuOf names) names.length (names.length + e) st'.sl st.sl
  ress : ressW (nuOf names) names e st.rs st'.rs

def Weak (hf : Fr) (kp : Nat) (st st' : St) : Prop := ∀ (c : Cx) (a : Act) (w : World), c.kp = kp → RelSt hf c st a w → RelSt hf c st' a w

theorem Weak.refl (hf : Fr) (kp : Nat) (st : St) : Weak hf kp st st := fun _ _ _ _ h => h
theorem Weak.trans {hf : Fr} {kp : Nat} {a b c : St} (h : Weak hf kp a b) (k : Weak hf kp b c) : Weak hf kp a c := fun x act w hx hr => k x act w hx (h x act w hx hr)

theorem slotsW_length {rs : List (Nat × Res)} {lo hi : Nat} {ν : Nat → Option Nat} : ∀ {l m : List SV}, slotsW rs ν lo hi l m → l.length = m.length
  | [], [], _ => rfl
  | _ :: l, _ :: m, h => by simp [slotsW_length h.2]
  | [], _ :: _, h => h.elim
  | _ :: _, [], h => h.elim

theorem slotsW_get {rs : List (Nat × Res)} {lo hi : Nat} {ν : Nat → Option Nat} : ∀ {l m : List SV} (i : Nat), slotsW rs ν lo hi l m → slotW rs ν lo hi (l.getD i .any) (m.getD i .any)
  | [], [], _, _ => by simp [slotW]
  | a :: l, b :: m, 0, h => h.1
  | a :: l, b :: m, i + 1, h => by simpa using slotsW_get i h.2
  | [], _ :: _, _, h => h.elim
  | _ :: _, [], _, h => h.elim

theorem ressW_get {ν : Nat → Option Nat} {names : List Nat} {e : Nat} {rs : List (Nat × Res)} : ∀ {l : List (Nat × Res)} (j : Nat), ressW ν names e rs l →
    lk l j = .gone ∨ (j < names.length ∧ retell rs ν names.length (names.length + e) (lk l j) (lk rs (names.getD j 0))) ∨ (names.length ≤ j ∧ j < names.length + e ∧ emptyR (lk l j))
  | [], _, _ => .inl rfl
  | (i, r) :: l, j, h => by
    simp only [lk]
    split
    · rename_i e; subst e; exact .inr h.1
    · exact ressW_get j h.2

theorem nuOf_some {names : List Nat} {i j : Nat} (h : nuOf names i = some j) : j < names.length ∧ names.getD j 0 = i := by
  unfold nuOf at h
  rw [List.idxOf?, List.findIdx?_eq_some_iff_getElem] at h
  obtain ⟨hlt, heq, _⟩ := h
  refine ⟨hlt, ?_⟩
  rw [List.getD_eq_getElem?_getD, List.getElem?_eq_getElem hlt]
  simpa using heq

theorem nodup_getD {names : List Nat} (h : names.Nodup) {i j : Nat} (hi : i < names.length) (hj : j < names.length) (he : names.getD i 0 = names.getD j 0) : i = j := by
  rw [List.getD_eq_getElem?_getD, List.getElem?_eq_getElem hi, List.getD_eq_getElem?_getD, List.getElem?_eq_getElem hj] at he
  simp only [Option.getD_some] at he
  rcases Nat.lt_trichotomy i j with hlt | hlt | hlt
  · exact absurd he (List.pairwise_iff_getElem.1 h i j hi hj hlt)
  · exact hlt
  · exact absurd he.symm (List.pairwise_iff_getElem.1 h j i hj hi hlt)

theorem Weak.core {hf : Fr} {st st' : St} (names : List Nat) (e : Nat) {c : Cx} {a : Act} {w : World} (h : WeakBy c.kp names e st st') {β : Env} {hh : Nat → Hp} (hfit : FitsF β (fun i => st.sl.getD i .any) a c.n) (hrel : Rel hf w β (lk st.rs) hh)
    (hB : ∀ i, i < c.kp → β i = c.B i) :
    ∃ β' h', Env.via β β' (nuOf names) ∧ (∀ j, names.length ≤ j → j < names.length + e → β' j = some ⟨none, 0⟩) ∧ FitsF β' (fun i => st'.sl.getD i .any) a c.n ∧ Rel hf w β' (lk st'.rs) h' ∧ (∀ i, st'.nx ≤ i → β' i = none) ∧ (∀ i, i < c.kp → β' i = c.B i) := by
  have hpre := h.pre
  simp only [prefixB, Bool.and_eq_true, decide_eq_true_eq, List.all_eq_true, List.mem_range, beq_iff_eq] at hpre
  have hnd := nodupB_iff h.nodup
  let β' : Env := ⟨fun j => if j < names.length then β (names.getD j 0) else if j < names.length + e then some ⟨none, 0⟩ else none, β.mem⟩
  let h' : Nat → Hp := fun j => if j < names.length then hh (names.getD j 0) else fun _ => none
  have hvia : Env.via β β' (nuOf names) := by
    refine ⟨?_, fun _ _ hb => hb⟩
    intro i j bd hn hb
    obtain ⟨h1, h2⟩ := nuOf_some hn
    show (if j < names.length then β (names.getD j 0) else _) = _
    rw [if_pos h1, h2]; exact hb
  have hemp : ∀ j, names.length ≤ j → j < names.length + e → β' j = some ⟨none, 0⟩ := fun j h1 h2 => by
    show (if j < names.length then _ else if j < names.length + e then _ else _) = _
    rw [if_neg (by omega), if_pos h2]
  refine ⟨β', h', hvia, hemp, ⟨hfit.size, fun i => ?_⟩, ⟨hrel.frame, fun j b o hb => ?_, fun j j' b hjj hb => ?_, fun j b hb => ?_, fun j => ?_, hrel.fzn.old, hrel.fzn.new, hrel.fzn.sub, fun j b hb => ?_⟩, fun i hi => ?_, fun i hi => ?_⟩
  · exact slotW_den hvia (frzOk_rel hrel) hemp _ _ _ (slotsW_get i h.slots) (hfit.den i)
  · simp only [h'] at hb
    split at hb
    · exact hrel.sub _ _ _ hb
    · cases hb
  · simp only [h'] at hb ⊢
    split at hb
    · rename_i h1
      split
      · rename_i h2
        exact hrel.disj _ _ b (fun e => hjj (nodup_getD hnd h1 h2 e)) hb
      · rfl
    · exact absurd rfl hb
  · simp only [h'] at hb
    split at hb
    · exact hrel.apart _ b hb
    · exact absurd rfl hb
  · rcases ressW_get j h.ress with h1 | ⟨h1, h2⟩ | ⟨h1, h2, h3⟩
    · rw [h1]; trivial
    · refine retell_sat hvia (frzOk_rel hrel) hemp h2 ?_
      have e1 : β' j = β (names.getD j 0) := if_pos h1
      have e2 : h' j = hh (names.getD j 0) := if_pos h1
      rw [e1, e2]
      exact hrel.sat _
    · rw [hemp j h1 h2]
      unfold emptyR at h3
      split at h3
      · rename_i he; rw [he]; exact ⟨h3, none, 0, rfl, by simp, .inl rfl⟩
      · rename_i he; rw [he]; trivial
      · exact h3.elim
  · simp only [h'] at hb
    split at hb
    · exact hrel.fzn.own _ b hb
    · exact absurd rfl hb
  · rw [h.nx] at hi
    show (if i < names.length then _ else if i < names.length + e then _ else _) = _
    rw [if_neg (by omega), if_neg (by omega)]
  · have e1 : β' i = β (names.getD i 0) := if_pos (by omega)
    rw [e1, hpre.2 i (by omega)]
    exact hB i hi

theorem Weak.by {hf : Fr} {kp : Nat} {st st' : St} (names : List Nat) (e : Nat) (h : WeakBy kp names e st st') : Weak hf kp st st' := by
  intro c a w hkp hr
  subst hkp
  obtain ⟨⟨β, hh, hfit, hrel, hnx, hB⟩, hlen, hk, hext, hdef⟩ := hr
  obtain ⟨β', h', _, _, h1, h2, h3, h4⟩ := Weak.core names e h hfit hrel hB
  have hpre := h.pre
  simp only [prefixB, Bool.and_eq_true, decide_eq_true_eq] at hpre
  exact ⟨⟨β', h', h1, h2, h3, h4⟩, by rw [slotsW_length h.slots]; exact hlen, by rw [h.nx]; omega, hext, hdef⟩

/-- Names' memory, never written again from here on. -/
theorem RelSt.fz {hf : Fr} {c : Cx} {st : St} {a : Act} {w : World} (F : List (Nat × Res)) (hF : fzL st.rs F) (hr : RelSt hf c st a w) : RelSt hf c ⟨st.sl, setRs st.rs F, st.nx⟩ a w := by
  obtain ⟨⟨β, hh, hfit, hrel, hnx, hB⟩, hlen, hk, hext, hdef⟩ := hr
  obtain ⟨β', h', e1, e2, e3, _⟩ := rel_fz F st.rs hF hrel
  refine ⟨⟨β', h', ⟨hfit.size, fun i => SV.den_le e2 _ _ (hfit.den i)⟩, e3, fun i hi => ?_, fun i hi => ?_⟩, hlen, hk, hext, hdef⟩
  · rw [e1]; exact hnx i hi
  · rw [e1]; exact hB i hi

theorem Weak.fz {hf : Fr} {kp : Nat} {st st' : St} (F : List (Nat × Res)) (hF : fzL st.rs F) (names : List Nat) (e : Nat) (h : WeakBy kp names e ⟨st.sl, setRs st.rs F, st.nx⟩ st') : Weak hf kp st st' := fun c a w hkp hr =>
  Weak.by names e h c a w hkp (hr.fz F hF)

section
variable {P : Program} {hf : Fr} {kp : Nat}

theorem least (J : Nat → Prop) : ∀ (n m : Nat), m ≤ n → J m → ∃ k, J k ∧ ∀ j, J j → k ≤ j
  | 0, m, h, hj => ⟨m, hj, fun j _ => by omega⟩
  | n + 1, m, h, hj => by
    by_cases hx : ∃ i, i < m ∧ J i
    · obtain ⟨i, hi, hji⟩ := hx
      exact least J n i (by omega) hji
    · exact ⟨m, hj, fun j h2 => Nat.le_of_not_lt fun h3 => hx ⟨j, h3, h2⟩⟩

open Classical in
noncomputable def leastOf (J : Nat → Prop) : Nat := if h : ∃ k, J k ∧ ∀ j, J j → k ≤ j then Classical.choose h else 0

theorem leastOf_le {J : Nat → Prop} {m : Nat} (h : J m) : leastOf J ≤ m := by
  have hx := least J m m (Nat.le_refl _) h
  unfold leastOf; rw [dif_pos hx]
  exact (Classical.choose_spec hx).2 m h

theorem leastOf_spec {J : Nat → Prop} {m : Nat} (h : J m) : J (leastOf J) := by
  have hx := least J m m (Nat.le_refl _) h
  unfold leastOf; rw [dif_pos hx]
  exact (Classical.choose_spec hx).1

theorem LoopC.inv (hfollow : P.follows .mixedOrders = true) {body : SC} {st : St} {K : Ex → St → Prop} {ι : Type} (I : ι → St) (C : ι → Prop) (μ : ι → Nat) (x0 : ι) (h0 : C x0) (hw : Weak hf kp st (I x0))
    {t : Tok K} (hstep : ∀ x, C x → wpC P hf kp body (I x) (fun ex st' => match ex with
      | .normal => ∃ y, C y ∧ μ y < μ x ∧ Weak hf kp st' (I y)
      | .exit id => K (.exit id) st'
      | .ret => K .ret st') ⟨⟩) : LoopC P hf kp body st K t := by
  intro c code a w hkp hc hr
  let J : Act → World → Nat → Prop := fun a w m => ∃ x, C x ∧ RelSt hf c (I x) a w ∧ μ x = m
  refine wp_loop (fun a w => ∃ m, J a w m) (fun a w => leastOf (J a w)) ⟨μ x0, x0, h0, hw c a w hkp hr, rfl⟩ ?_
  rintro a w ⟨m0, hJ0⟩
  obtain ⟨x, hx, hrx, hm⟩ := leastOf_spec hJ0
  have hwp := wpC_sound hfollow body (code := code) (c := c) (a := a) (w := w) hc (by rw [hkp]; exact hstep x hx) hrx
  refine wp_mono hwp ?_
  rintro e a' w' ⟨ex, st', he, hk, hr'⟩
  cases e <;> simp only [exOf, Option.some.injEq, reduceCtorEq] at he
  · subst he
    obtain ⟨y, hy, hlt, hwy⟩ := hk
    have hJ' : J a' w' (μ y) := ⟨y, hy, hwy c a' w' hkp hr', rfl⟩
    have h1 := leastOf_le hJ'
    exact ⟨⟨_, hJ'⟩, by omega⟩
  · subst he; exact ⟨_, st', rfl, hk, hr'⟩
  · subst he; exact ⟨_, st', rfl, hk, hr'⟩

theorem SemC.into (hfollow : P.follows .mixedOrders = true) {body : SC} {st st' : St} {K : Ex → St → Prop} {t : Tok K} (hw : Weak hf kp st st') (h : wpC P hf kp body st' K t) : SemC P hf kp body st K := by
  intro c code a w hkp hc hr
  subst hkp
  exact wpC_sound hfollow body hc h (hw c a w rfl hr)

theorem JoinC.of (hfollow : P.follows .mixedOrders = true) {A : (K : Ex → St → Prop) → Tok K → Prop} {b : SC} {K : Ex → St → Prop} {ι : Type} (M : ι → St) (G : ι → Prop)
    (h1 : A (joinK (fun st' => ∃ x, G x ∧ Weak hf kp st' (M x)) K) ⟨⟩) (h2 : ∀ x, G x → wpC P hf kp b (M x) K ⟨⟩) : JoinC P hf kp A b K :=
  ⟨_, h1, fun st' ⟨x, hx, hw⟩ => SemC.into hfollow hw (h2 x hx)⟩

end
end Sx

/- The engine's operations are sound, seventh part: slicing, lengths, the least and the greatest. -/
import Derived.Test.YtbhefgajgdcajaaSxSnd6
set_option linter.unusedVariables false
set_option linter.unusedSimpArgs false
namespace Sx
open Go

section
variable {P : Program} {o : Oper}

theorem oint_cases {β : Env} {ρ : Operand → SV} {va : Operand → Value} {d n : Int} {x : Option Operand} (h : oint ρ d x = some n) (hd : ∀ y ∈ oo x, SV.Den β (ρ y) (va y)) :
    (x = none ∧ n = d) ∨ ∃ y k, x = some y ∧ va y = .int k n := by
  cases x with
  | none => simp only [oint, Option.some.injEq] at h; exact .inl ⟨rfl, h.symm⟩
  | some y =>
    simp only [oint] at h
    split at h
    case h_2 => cases h
    rename_i k m e
    simp only [Option.some.injEq] at h; subst h
    have := hd y (by simp [oo])
    rw [e] at this
    exact .inr ⟨y, k, rfl, this.1⟩

theorem run_sliceBound {w : World} {k : IntKind} {i : Int} {y : Nat} {code : BoundsCode} (h1 : 0 ≤ i) (h2 : i ≤ y) : (Instr.sliceBound (.int k i) y code).run P w = .ok i.toNat w := by
  simp [Instr.sliceBound, asIntOf, h1, h2]

theorem run_bounds2 {β : Env} {ρ : Operand → SV} {va : Operand → Value} {w : World} {b : Bool} {len cap : Nat} {lo hi : Option Operand} {l h : Int}
    (e1 : oint ρ 0 lo = some l) (e2 : oint ρ len hi = some h) (hdl : ∀ y ∈ oo lo, SV.Den β (ρ y) (va y)) (hdh : ∀ y ∈ oo hi, SV.Den β (ρ y) (va y))
    (h0 : 0 ≤ l) (h1 : l ≤ h) (h2 : h ≤ len) (h3 : len ≤ cap) : (Instr.sliceBounds b len cap (lo.map va) (hi.map va) none).run P w = .ok (l.toNat, h.toNat, cap) w := by
  unfold Instr.sliceBounds
  simp only [Sem.run_bind, Sem.run_pure, Result.andThen_ok]
  rcases oint_cases e2 hdh with ⟨rfl, rfl⟩ | ⟨yh, kh, rfl, hvh⟩
  · rcases oint_cases e1 hdl with ⟨rfl, rfl⟩ | ⟨yl, kl, rfl, hvl⟩
    · simp
    · simp [hvl, run_sliceBound (P := P) h0 h1]
  · have hb : ∀ code, (Instr.sliceBound (.int kh h) cap code).run P w = .ok h.toNat w := fun code => run_sliceBound (by omega) (by omega)
    rcases oint_cases e1 hdl with ⟨rfl, rfl⟩ | ⟨yl, kl, rfl, hvl⟩
    · simp [hvh, hb]
    · have hb2 : ∀ code, (Instr.sliceBound (.int kl l) h.toNat code).run P w = .ok l.toNat w := fun code => run_sliceBound h0 (by omega)
      simp [hvh, hb, hvl, hb2]

theorem run_bounds2c {β : Env} {ρ : Operand → SV} {va : Operand → Value} {w : World} {b : Bool} {len cap : Nat} {lo hi : Option Operand} {l h : Int}
    (e1 : oint ρ 0 lo = some l) (e2 : oint ρ len hi = some h) (hdl : ∀ y ∈ oo lo, SV.Den β (ρ y) (va y)) (hdh : ∀ y ∈ oo hi, SV.Den β (ρ y) (va y))
    (h0 : 0 ≤ l) (h1 : l ≤ h) (h2 : h ≤ cap) : (Instr.sliceBounds b len cap (lo.map va) (hi.map va) none).run P w = .ok (l.toNat, h.toNat, cap) w := by
  unfold Instr.sliceBounds
  simp only [Sem.run_bind, Sem.run_pure, Result.andThen_ok]
  rcases oint_cases e2 hdh with ⟨rfl, rfl⟩ | ⟨yh, kh, rfl, hvh⟩
  · rcases oint_cases e1 hdl with ⟨rfl, rfl⟩ | ⟨yl, kl, rfl, hvl⟩
    · simp
    · simp [hvl, run_sliceBound (P := P) h0 h1]
  · have hb : ∀ code, (Instr.sliceBound (.int kh h) cap code).run P w = .ok h.toNat w := fun code => run_sliceBound (by omega) (by omega)
    rcases oint_cases e1 hdl with ⟨rfl, rfl⟩ | ⟨yl, kl, rfl, hvl⟩
    · simp [hvh, hb]
    · have hb2 : ∀ code, (Instr.sliceBound (.int kl l) h.toNat code).run P w = .ok l.toNat w := fun code => run_sliceBound h0 (by omega)
      simp [hvh, hb, hvl, hb2]

theorem run_bounds3 {β : Env} {ρ : Operand → SV} {va : Operand → Value} {w : World} {b : Bool} {len cap : Nat} {lo : Option Operand} {hi y : Operand} {l h m : Int}
    (e1 : oint ρ 0 lo = some l) (e2 : oint ρ len (some hi) = some h) (e3 : oint ρ 0 (some y) = some m) (hdl : ∀ y ∈ oo lo, SV.Den β (ρ y) (va y)) (hdh : SV.Den β (ρ hi) (va hi)) (hdm : SV.Den β (ρ y) (va y))
    (h0 : 0 ≤ l) (h1 : l ≤ h) (h2 : h ≤ m) (h3 : m ≤ cap) : (Instr.sliceBounds b len cap (lo.map va) (some (va hi)) (some (va y))).run P w = .ok (l.toNat, h.toNat, m.toNat) w := by
  unfold Instr.sliceBounds
  rcases oint_cases e2 (by simpa [oo] using hdh) with ⟨h, _⟩ | ⟨yh, kh, hyh, hvh⟩
  · cases h
  · rcases oint_cases e3 (by simpa [oo] using hdm) with ⟨h, _⟩ | ⟨ym, km, hym, hvm⟩
    · cases h
    · cases hyh; cases hym
      have hb1 : ∀ code, (Instr.sliceBound (.int km m) cap code).run P w = .ok m.toNat w := fun code => run_sliceBound (by omega) (by omega)
      have hb2 : ∀ code, (Instr.sliceBound (.int kh h) m.toNat code).run P w = .ok h.toNat w := fun code => run_sliceBound (by omega) (by omega)
      rcases oint_cases e1 hdl with ⟨rfl, rfl⟩ | ⟨yl, kl, rfl, hvl⟩
      · simp [hvh, hvm, hb1, hb2]
      · have hb3 : ∀ code, (Instr.sliceBound (.int kl l) h.toNat code).run P w = .ok l.toNat w := fun code => run_sliceBound h0 (by omega)
        simp [hvh, hvm, hvl, hb1, hb2, hb3]

theorem snd_sliceS {t : TypeId} {x : Operand} {lo hi : Option Operand} (h1 : P.underlying t = some .string) (h : o.op = .slice t x lo hi none) : Sound P o (.sliceS x lo hi) := by
  intro ρ va hf w β res hp n rs r hd _ hr hn hop ho
  have hx := hd x (by simp [SOp.operands])
  simp only [opFn] at hop
  split at hop
  case h_2 => cases hop
  rename_i s e
  rw [e] at hx
  split at hop
  case h_2 => cases hop
  rename_i l hh e1 e2
  simp only [Option.some.injEq] at hop; subst hop
  obtain ⟨ho1, ho2, ho3⟩ := ho
  have hb := run_bounds2 (P := P) (w := w) (b := false) e1 e2 (fun y hy => hd y (by simp [SOp.operands, hy])) (fun y hy => hd y (by simp [SOp.operands, hy])) ho1 ho2 ho3 (Nat.le_refl _)
  refine done_pure hr hn (v := .string (s.extract l.toNat hh.toNat)) ?_ ⟨rfl, trivial⟩
  simp [execOp, h, hx.1, Instr.sliceAt, Instr.slice, run_underlying h1, hb]

theorem snd_sliceL {t e : TypeId} {j : TypeInfo} {x : Operand} {lo hi mx : Option Operand} (h1 : P.underlying t = some (.slice e)) (h2 : P.info? e = some j) (h : o.op = .slice t x lo hi mx) :
    Sound P o (.sliceL j.size x lo hi mx) := by
  intro ρ va hf w β res hp n rs r hd hrs hr hn hop ho
  have hx := hd x (by simp [SOp.operands])
  have hdl : ∀ y ∈ oo lo, SV.Den β (ρ y) (va y) := fun y hy => hd y (by simp [SOp.operands, hy])
  have hdh : ∀ y ∈ oo hi, SV.Den β (ρ y) (va y) := fun y hy => hd y (by simp [SOp.operands, hy])
  have hdm : ∀ y ∈ oo mx, SV.Den β (ρ y) (va y) := fun y hy => hd y (by simp [SOp.operands, hy])
  simp only [opFn] at hop
  split at hop
  · rename_i i sz' lo0 len mc ex
    rw [ex] at hx
    split at hop
    case isFalse => cases hop
    rename_i hsz; subst hsz
    obtain ⟨ad, cap, hb, hle, hpos, hmc, ad', hv, haddr⟩ := hx
    have hlen : len ≤ mc.getD (cap / j.size - lo0) := by
      cases mc with
      | none =>
        simp only [Option.getD_none]
        have : (lo0 + len) ≤ cap / j.size := (Nat.le_div_iff_mul_le hpos).2 hle
        omega
      | some m => exact (hmc m rfl).1
    split at hop
    · rename_i l hh e1 e2
      simp only [Option.some.injEq] at hop; subst hop
      obtain ⟨ho1, ho2, ho3⟩ := ho
      have ho4 : hh.toNat ≤ mc.getD (cap / j.size - lo0) := by
        cases mc with
        | none => simp only [Option.getD_none] at ho3 hlen ⊢; omega
        | some m => simp only [Option.getD_some] at ho3 ⊢; omega
      have hcapl : (lo0 + hh.toNat) * j.size ≤ cap := by
        cases mc with
        | none => simp only [Option.getD_none] at ho3; exact Nat.le_trans (Nat.mul_le_mul_right _ (by omega)) hle
        | some m => simp only [Option.getD_some] at ho3; exact Nat.le_trans (Nat.mul_le_mul_right _ (by omega)) (hmc m rfl).2
      have hbr := run_bounds2c (P := P) (w := w) (b := true) (cap := mc.getD (cap / j.size - lo0)) e1 e2 hdl hdh ho1 ho2 (by omega)
      refine done_pure hr hn (v := .slice (if mc.getD (cap / j.size - lo0) = l.toNat then ad' else ad'.map (·.add (l.toNat * j.size))) (hh.toNat - l.toNat) (mc.getD (cap / j.size - lo0) - l.toNat)) ?_ ?_
      · simp [execOp, h, hv, Instr.sliceAt, Instr.slice, run_underlying h1, run_sizeOf_of h2, hbr]
      · refine ⟨ad, cap, hb, ?_, hpos, ?_, (if mc.getD (cap / j.size - lo0) = l.toNat then ad' else ad'.map (·.add (l.toNat * j.size))), ?_, ?_⟩
        · exact Nat.le_trans (Nat.mul_le_mul_right _ (by omega)) hcapl
        · intro m hm
          cases mc with
          | none => cases hm
          | some m0 =>
            simp only [Option.map_some, Option.some.injEq] at hm
            have := hmc m0 rfl
            subst hm
            simp only [Option.getD_some] at hlen ho3 ho4
            refine ⟨by omega, Nat.le_trans (Nat.mul_le_mul_right _ (by omega)) this.2⟩
        · congr 1
          cases mc with
          | none => simp only [Option.map_none, Option.getD_none]; omega
          | some m0 => simp
        · intro hlt
          have hc : 0 < mc.getD (cap / j.size - lo0) - l.toNat := by
            cases mc with
            | none => simp only [Option.map_none, Option.getD_none] at hlt ⊢; omega
            | some m0 => simpa using hlt
          obtain ⟨a, e1', e2'⟩ := haddr (by omega)
          refine ⟨a, e1', ?_⟩
          rw [if_neg (by omega), e2']
          simp only [Option.map_some]
          rw [add_add', Nat.add_mul]
    · rename_i l hh y e1 e2
      split at hop
      case h_2 => cases hop
      rename_i hi' m e3
      simp only [Option.some.injEq] at hop; subst hop
      obtain ⟨ho1, ho2, ho3, ho4⟩ := ho
      have hmcap : m.toNat ≤ mc.getD (cap / j.size - lo0) := by omega
      have hbr := run_bounds3 (P := P) (w := w) (b := true) (len := len) (cap := mc.getD (cap / j.size - lo0)) e1 e2 e3 hdl (hdh hi' (by simp [oo])) (hdm y (by simp [oo])) ho1 ho2 ho3 (by omega)
      refine done_pure hr hn (v := .slice (if m.toNat = l.toNat then ad' else ad'.map (·.add (l.toNat * j.size))) (hh.toNat - l.toNat) (m.toNat - l.toNat)) ?_ ?_
      · simp [execOp, h, hv, Instr.sliceAt, Instr.slice, run_underlying h1, run_sizeOf_of h2, hbr]
      · refine ⟨ad, cap, hb, ?_, hpos, ?_, (if m.toNat = l.toNat then ad' else ad'.map (·.add (l.toNat * j.size))), ?_, ?_⟩
        · exact Nat.le_trans (Nat.mul_le_mul_right _ (by omega)) hle
        · intro m' hm'
          simp only [Option.some.injEq] at hm'
          subst hm'
          exact ⟨by omega, Nat.le_trans (Nat.mul_le_mul_right _ (by omega)) hle⟩
        · simp
        · intro hlt
          simp only [Option.getD_some] at hlt
          obtain ⟨a, e1', e2'⟩ := haddr (by omega)
          refine ⟨a, e1', ?_⟩
          rw [if_neg (by omega), e2']
          simp only [Option.map_some]
          rw [add_add', Nat.add_mul]
    · cases hop
  · rename_i sz' len mc f ex
    rw [ex] at hx
    split at hop
    case isFalse => cases hop
    rename_i hsz; subst hsz
    have hx' := hx
    obtain ⟨hpos, ad, cap, hv, hle, hmc, _⟩ := hx'
    rw [hv] at hx
    split at hop
    · rename_i l hh e1 e2
      simp only [Option.some.injEq] at hop; subst hop
      obtain ⟨ho1, ho2, ho3⟩ := ho
      have hbr := run_bounds2 (P := P) (w := w) (b := true) e1 e2 hdl hdh ho1 ho2 ho3 hle
      refine done_pure hr hn (v := .slice (if cap = l.toNat then ad else ad.map (·.add (l.toNat * j.size))) (hh.toNat - l.toNat) (cap - l.toNat)) ?_ (rsl_cut hx (by omega) (by omega) (by omega) (by omega) ?_)
      · simp [execOp, h, hv, Instr.sliceAt, Instr.slice, run_underlying h1, run_sizeOf_of h2, hbr]
      · intro m hm
        cases mc with
        | none => cases hm
        | some m0 =>
          simp only [Option.map_some, Option.some.injEq] at hm
          rw [hmc m0 rfl]; exact hm
    · rename_i l hh y e1 e2
      split at hop
      case h_2 => cases hop
      rename_i hi' m e3
      simp only [Option.some.injEq] at hop; subst hop
      obtain ⟨ho1, ho2, ho3, ho4⟩ := ho
      have hbr := run_bounds3 (P := P) (w := w) (b := true) (len := len) (cap := cap) e1 e2 e3 hdl (hdh hi' (by simp [oo])) (hdm y (by simp [oo])) ho1 ho2 ho3 (by omega)
      refine done_pure hr hn (v := .slice (if m.toNat = l.toNat then ad else ad.map (·.add (l.toNat * j.size))) (hh.toNat - l.toNat) (m.toNat - l.toNat)) ?_ (rsl_cut hx (by omega) (by omega) (by omega) (by omega) ?_)
      · simp [execOp, h, hv, Instr.sliceAt, Instr.slice, run_underlying h1, run_sizeOf_of h2, hbr]
      · intro m' hm'
        simp only [Option.some.injEq] at hm'; exact hm'
    · cases hop
  · rename_i ex
    rw [ex] at hx
    split at hop
    · rename_i l hh e1 e2
      simp only [Option.some.injEq] at hop; subst hop
      obtain ⟨rfl, rfl⟩ := ho
      have hbr := run_bounds2 (P := P) (w := w) (b := true) (len := 0) (cap := 0) e1 e2 hdl hdh (by omega) (by omega) (by simp) (Nat.le_refl _)
      refine done_pure hr hn (v := .slice none 0 0) ?_ ⟨rfl, trivial⟩
      simp only [Int.toNat_zero] at hbr
      simp [execOp, h, hx.1, Instr.sliceAt, Instr.slice, run_underlying h1, run_sizeOf_of h2, hbr]
    · rename_i l hh y e1 e2
      split at hop
      case h_2 => cases hop
      rename_i hi' m e3
      simp only [Option.some.injEq] at hop; subst hop
      obtain ⟨rfl, rfl, rfl⟩ := ho
      have hbr := run_bounds3 (P := P) (w := w) (b := true) (len := 0) (cap := 0) e1 e2 e3 hdl (hdh hi' (by simp [oo])) (hdm y (by simp [oo])) (by omega) (by omega) (by omega) (by omega)
      refine done_pure hr hn (v := .slice none 0 0) ?_ ⟨rfl, trivial⟩
      simp only [Int.toNat_zero] at hbr
      simp [execOp, h, hx.1, Instr.sliceAt, Instr.slice, run_underlying h1, run_sizeOf_of h2, hbr]
    · cases hop
  · cases hop

theorem snd_sliceA {t e : TypeId} {m : Nat} {j : TypeInfo} {x : Operand} {lo hi : Option Operand} (h1 : P.underlying t = some (.array m e)) (h2 : P.info? e = some j) (hpos : 0 < j.size)
    (h : o.op = .slice t x lo hi none) : Sound P o (.sliceA m j.size x lo hi) := by
  intro ρ va hf w β res hp n rs r hd hrs hr hn hop ho
  have hx := hd x (by simp [SOp.operands])
  have hdl : ∀ y ∈ oo lo, SV.Den β (ρ y) (va y) := fun y hy => hd y (by simp [SOp.operands, hy])
  have hdh : ∀ y ∈ oo hi, SV.Den β (ρ y) (va y) := fun y hy => hd y (by simp [SOp.operands, hy])
  simp only [opFn] at hop
  split at hop
  case h_2 => cases hop
  rename_i i ex
  rw [ex] at hx
  rw [← hrs i (by simp [need, ex, SV.nm])] at hop
  obtain ⟨ad, cap, hb, hv⟩ := hx
  have hsat := hr.sat i
  rw [hb] at hsat
  have key : ∀ {a b : Int} {mc : Option Nat}, oint ρ 0 lo = some a → oint ρ m hi = some b → 0 ≤ a → a ≤ b → b ≤ m → m * j.size ≤ cap →
      (mc = none ∧ cap = m * j.size ∨ mc = some (m - a.toNat)) →
      ∃ v w' β' h', Done P hf ((execOp va o).run P w) w β res hp n ⟨0 ≤ a ∧ a ≤ b ∧ b ≤ m, .cv (.slc i j.size a.toNat (b.toNat - a.toNat) mc), []⟩ v w' β' h' := by
    intro a b mc e1 e2 h3 h4 h5 hcap hmc
    have hbr := run_bounds2 (P := P) (w := w) (b := false) e1 e2 hdl hdh h3 h4 h5 (Nat.le_refl _)
    have hgap : mc.getD (cap / j.size - a.toNat) = m - a.toNat := by
      rcases hmc with ⟨rfl, rfl⟩ | rfl
      · simp [Nat.mul_div_cancel _ hpos]
      · rfl
    refine done_pure hr hn (v := .slice (some (if m = a.toNat then ad.add (0 * 0 + 0) else (ad.add (0 * 0 + 0)).add (a.toNat * j.size))) (b.toNat - a.toNat) (m - a.toNat)) ?_ ?_
    · simp [execOp, h, hv, Instr.sliceAt, run_underlying h1, Instr.sureAddr, run_sizeOf_of h2, hbr]
    · refine ⟨some ad, cap, hb, ?_, hpos, ?_, some (if m = a.toNat then ad.add (0 * 0 + 0) else (ad.add (0 * 0 + 0)).add (a.toNat * j.size)), by rw [hgap], ?_⟩
      · exact Nat.le_trans (Nat.mul_le_mul_right _ (by omega)) hcap
      · intro m' hm'
        rcases hmc with ⟨rfl, rfl⟩ | rfl
        · cases hm'
        · simp only [Option.some.injEq] at hm'; subst hm'
          exact ⟨by omega, Nat.le_trans (Nat.mul_le_mul_right _ (by omega)) hcap⟩
      · intro hlt
        rw [hgap] at hlt
        refine ⟨ad, rfl, ?_⟩
        rw [if_neg (by omega), add_add']; simp
  split at hop
  · rename_i l hres
    split at hop
    case isFalse => cases hop
    rename_i hll
    split at hop
    case h_2 => cases hop
    rename_i a b e1 e2
    simp only [Option.some.injEq] at hop; subst hop
    rw [hres] at hsat
    obtain ⟨_, _, _, _, hbd, _⟩ := hsat
    simp only [Option.some.injEq, Bd.mk.injEq] at hbd
    obtain ⟨_, rfl⟩ := hbd
    exact key e1 e2 ho.1 ho.2.1 ho.2.2 (by omega) (.inl ⟨rfl, hll⟩)
  · rename_i sz' k f hres
    split at hop
    case isFalse => cases hop
    rename_i hll
    obtain ⟨rfl, rfl⟩ := hll
    split at hop
    case h_2 => cases hop
    rename_i a b e1 e2
    simp only [Option.some.injEq] at hop; subst hop
    rw [hres] at hsat
    obtain ⟨_, _, _, hbd, hle, _⟩ := hsat
    simp only [Option.some.injEq, Bd.mk.injEq] at hbd
    obtain ⟨_, rfl⟩ := hbd
    exact key e1 e2 ho.1 ho.2.1 ho.2.2 hle (.inr rfl)
  · cases hop

end
end Sx

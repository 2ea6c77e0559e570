/- Names told otherwise: a renaming, and what it leaves of a state. -/
import Derived.Test.YtbhefgajgdcajaaSxReg4
set_option linter.unusedVariables false
set_option linter.unusedSimpArgs false
namespace Sx
open Go

mutual
/-- A value under a renaming; what has no new name is forgotten. -/
def CV.ren (ν : Nat → Option Nat) : CV → CV
  | .any => .any
  | .val v => .val v
  | .ptr i sz idx fld => match ν i with
    | some j => .ptr j sz idx fld
    | none => .any
  | .slc i sz lo len mc => match ν i with
    | some j => .slc j sz lo len mc
    | none => .any
  | .mp i => match ν i with
    | some j => .mp j
    | none => .any
  | .ch i => match ν i with
    | some j => .ch j
    | none => .any
  | .num i => match ν i with
    | some j => .num j
    | none => .any
  | .fn f a b => .fn f (CV.renL ν a) (CV.renL ν b)
  | .rsl sz n mc f => .rsl sz n mc f
  | .rp l => .rp l
  | .nq n => .nq n
def CV.renL (ν : Nat → Option Nat) : List CV → List CV
  | [] => []
  | c :: l => CV.ren ν c :: CV.renL ν l
end

mutual
def SV.ren (ν : Nat → Option Nat) : SV → SV
  | .any => .any
  | .cv c => .cv (CV.ren ν c)
  | .agg l => .agg (CV.renL ν l)
  | .tup l => .tup (SV.renL ν l)
def SV.renL (ν : Nat → Option Nat) : List SV → List SV
  | [] => []
  | c :: l => SV.ren ν c :: SV.renL ν l
end

def Res.ren (ν : Nat → Option Nat) : Res → Res
  | .gone => .gone
  | .cells l => .cells (CV.renL ν l)
  | .recs sz n f => .recs sz n fun i => CV.renL ν (f i)
  | .ro sz n f => .ro sz n fun i => CV.renL ν (f i)
  | .frz sz n f => .frz sz n f
  | .rmap l => .rmap l
  | .rmapP l k n => match ν n with
    | some j => .rmapP l k j
    | none => .gone
  | .chan c q => .chan c q

/-- The new naming says of each new name what the old one said of its old name. -/
structure Env.via (β β' : Env) (ν : Nat → Option Nat) : Prop where
  nm : ∀ i j b, ν i = some j → β i = some b → β' j = some b
  mem : ∀ b o, β.mem b = some o → β'.mem b = some o

/-- What lies in memory that is never written again needs no names. -/
def CV.still : CV → Prop
  | .rsl _ _ _ _ => True
  | .rp _ => True
  | .nq _ => True
  | _ => False

theorem CV.den_mem {β β' : Env} (h : ∀ b o, β.mem b = some o → β'.mem b = some o) {c : CV} {x : Value} (hc : c.still) (hx : CV.Den β c x) : CV.Den β' c x := by
  have key : ∀ b : Env, CV.Den b c x ↔ CV.Den b.bare c x := fun b => by
    cases c <;> first | exact hc.elim | exact Iff.rfl
  rw [key] at hx ⊢
  exact CV.den_le (Env.le_bare h) c x hx

theorem Res.sat_mem {hf hf' : Fr} {β β' : Env} (h : ∀ b o, β.mem b = some o → β'.mem b = some o) {sz n : Nat} {f : Nat → List CV} {bd : Option Bd} {p p' : Hp} (hs : (Res.frz sz n f).Sat hf β bd p) : (Res.frz sz n f).Sat hf' β' bd p' := by
  obtain ⟨h0, ad, cap, h1, h2, h3⟩ := hs
  refine ⟨h0, ad, cap, h1, h2, ?_⟩
  rcases h3 with h3 | ⟨a, e1, e2, e3⟩
  · exact .inl h3
  · refine .inr ⟨a, e1, e2, fun i hi => ?_⟩
    obtain ⟨vs, k1, k2, k3⟩ := e3 i hi
    refine ⟨vs, k1, CV.denL_le (Env.le_bare h) _ _ k2, fun j hj => ?_⟩
    have := k3 j hj
    rw [List.getElem?_eq_getElem (by omega)] at this ⊢
    exact hcell_sub h this

mutual
theorem CV.den_ren {β β' : Env} {ν : Nat → Option Nat} (h : Env.via β β' ν) : ∀ (c : CV) (x : Value), CV.Den β c x → CV.Den β' (CV.ren ν c) x
  | .any, _, hx => hx
  | .val _, _, hx => hx
  | .ptr i sz idx fld, x, hx => by
    have hp := CV.den_plain _ _ hx
    obtain ⟨a, cap, hb, hv⟩ := hx
    simp only [CV.ren]
    cases hn : ν i with
    | none => exact hp
    | some j => exact ⟨a, cap, h.nm i j _ hn hb, hv⟩
  | .slc i sz lo len mc, x, hx => by
    have hp := CV.den_plain _ _ hx
    obtain ⟨ad, cap, hb, hv⟩ := hx
    simp only [CV.ren]
    cases hn : ν i with
    | none => exact hp
    | some j => exact ⟨ad, cap, h.nm i j _ hn hb, hv⟩
  | .mp i, x, hx => by
    have hp := CV.den_plain _ _ hx
    obtain ⟨b, cap, hb, hv⟩ := hx
    simp only [CV.ren]
    cases hn : ν i with
    | none => exact hp
    | some j => exact ⟨b, cap, h.nm i j _ hn hb, hv⟩
  | .ch i, x, hx => by
    have hp := CV.den_plain _ _ hx
    obtain ⟨b, cap, hb, hv⟩ := hx
    simp only [CV.ren]
    cases hn : ν i with
    | none => exact hp
    | some j => exact ⟨b, cap, h.nm i j _ hn hb, hv⟩
  | .num i, x, hx => by
    have hp := CV.den_plain _ _ hx
    obtain ⟨b, cap, hb, hv⟩ := hx
    simp only [CV.ren]
    cases hn : ν i with
    | none => exact hp
    | some j => exact ⟨b, cap, h.nm i j _ hn hb, hv⟩
  | .fn f a b, x, hx => by
    obtain ⟨fs, cs, hv, h1, h2⟩ := hx
    exact ⟨fs, cs, hv, CV.denL_ren h a fs h1, CV.denL_ren h b cs h2⟩
  | .rsl sz n mc f, x, hx => CV.den_mem h.mem trivial hx
  | .rp l, x, hx => CV.den_mem h.mem trivial hx
  | .nq _, x, hx => CV.den_mem h.mem trivial hx
theorem CV.denL_ren {β β' : Env} {ν : Nat → Option Nat} (h : Env.via β β' ν) : ∀ (l : List CV) (xs : List Value), CV.DenL β l xs → CV.DenL β' (CV.renL ν l) xs
  | [], [], _ => trivial
  | c :: l, x :: xs, ⟨h1, h2⟩ => ⟨CV.den_ren h c x h1, CV.denL_ren h l xs h2⟩
  | [], _ :: _, hx => hx.elim
  | _ :: _, [], hx => hx.elim
end

mutual
theorem SV.den_ren {β β' : Env} {ν : Nat → Option Nat} (h : Env.via β β' ν) : ∀ (c : SV) (x : Value), SV.Den β c x → SV.Den β' (SV.ren ν c) x
  | .any, _, hx => hx
  | .cv c, x, hx => CV.den_ren h c x hx
  | .agg l, _, ⟨vs, hx, h1⟩ => ⟨vs, hx, CV.denL_ren h l vs h1⟩
  | .tup l, _, ⟨vs, hx, h1⟩ => ⟨vs, hx, SV.denL_ren h l vs h1⟩
theorem SV.denL_ren {β β' : Env} {ν : Nat → Option Nat} (h : Env.via β β' ν) : ∀ (l : List SV) (xs : List Value), SV.DenL β l xs → SV.DenL β' (SV.renL ν l) xs
  | [], [], _ => trivial
  | c :: l, x :: xs, ⟨h1, h2⟩ => ⟨SV.den_ren h c x h1, SV.denL_ren h l xs h2⟩
  | [], _ :: _, hx => hx.elim
  | _ :: _, [], hx => hx.elim
end

theorem CV.renL_length (ν : Nat → Option Nat) : ∀ l : List CV, (CV.renL ν l).length = l.length
  | [] => rfl
  | _ :: l => by simp [CV.renL, CV.renL_length ν l]

theorem Res.sat_ren {hf hf' : Fr} {β β' : Env} {ν : Nat → Option Nat} (h : Env.via β β' ν) {bd : Option Bd} {r : Res} {p : Hp} (hro : ∀ sz n f, r = .ro sz n f → ∀ a v, hcell hf a = some v → hcell hf' a = some v)
    (hs : r.Sat hf β bd p) : (r.ren ν).Sat hf' β' bd p := by
  cases r with
  | gone => trivial
  | cells l =>
    obtain ⟨b, vs, t, fr, h1, h2, h3, h4⟩ := hs
    exact ⟨b, vs, t, fr, by rw [CV.renL_length]; exact h1, CV.denL_ren h _ _ h2, h3, by rw [CV.renL_length]; exact h4⟩
  | recs sz n f =>
    obtain ⟨h0, ad, cap, h1, h2, h3⟩ := hs
    refine ⟨h0, ad, cap, h1, h2, ?_⟩
    rcases h3 with h3 | ⟨b, vs, t, fr, e1, e2, e3, e4, e5⟩
    · exact .inl h3
    · exact .inr ⟨b, vs, t, fr, e1, e2, e3, e4, fun i hi => CV.denL_ren h _ _ (e5 i hi)⟩
  | ro sz n f =>
    obtain ⟨h0, ad, cap, h1, h2, h3⟩ := hs
    refine ⟨h0, ad, cap, h1, h2, ?_⟩
    rcases h3 with h3 | ⟨a, e1, e2, e3⟩
    · exact .inl h3
    · refine .inr ⟨a, e1, e2, fun i hi => ?_⟩
      obtain ⟨vs, k1, k2, k3⟩ := e3 i hi
      refine ⟨vs, k1, CV.denL_ren h _ _ k2, fun j hj => ?_⟩
      have := k3 j hj
      rw [List.getElem?_eq_getElem (by omega)] at this ⊢
      exact hro sz n f rfl _ _ this
  | frz sz n f => exact Res.sat_mem h.mem hs
  | rmap l => exact hs
  | rmapP l k n =>
    obtain ⟨b, es, clock, h1, h2, h3, ad, e, h4, h5⟩ := hs
    simp only [Res.ren]
    cases hn : ν n with
    | none => trivial
    | some j => exact ⟨b, es, clock, h1, h2, h3, ad, e, h.nm n j _ hn h4, h5⟩
  | chan c q => exact hs

end Sx

/- A slice that begins further on, told as one that begins at its memory's first row. -/
import Derived.Test.YtbilfmgphobggaaSxShort
set_option linter.unusedVariables false
set_option linter.unusedSimpArgs false
namespace Sx
open Go
set_option maxRecDepth 100000
theorem Rel.moveTo {hf : Fr} {w : World} {β : Env} {res : Nat → Res} {h : Nat → Hp} (hr : Rel hf w β res h) {i n : Nat} {bd : Bd} {r : Res} (hn : β n = none) (hin : i ≠ n) (hs : r.Sat hf β (some bd) (h i)) :
    Rel hf w (β.up n (some bd)) (up (up res i .gone) n r) (up (up h i (fun _ => none)) n (h i)) := by
  have hle : Env.le β (β.up n (some bd)) := Env.le_up hn
  refine ⟨hr.frame, fun j b o hj => ?_, fun j k b hjk hj => ?_, fun j b hj => ?_, fun j => ?_, hr.fzn.old, hr.fzn.new, hr.fzn.sub, fun j b hj => ?_⟩
  · by_cases hjn : j = n
    · subst hjn; rw [up_same] at hj; exact hr.sub i b o hj
    · rw [up_ne _ _ hjn] at hj
      by_cases hji : j = i
      · subst hji; rw [up_same] at hj; cases hj
      · rw [up_ne _ _ hji] at hj; exact hr.sub j b o hj
  · by_cases hjn : j = n
    · subst hjn
      rw [up_same] at hj
      rw [up_ne _ _ (Ne.symm hjk)]
      by_cases hki : k = i
      · subst hki; rw [up_same]
      · rw [up_ne _ _ hki]; exact hr.disj i k b (Ne.symm hki) hj
    · rw [up_ne _ _ hjn] at hj
      by_cases hji : j = i
      · subst hji; rw [up_same] at hj; exact absurd rfl hj
      · rw [up_ne _ _ hji] at hj
        by_cases hkn : k = n
        · subst hkn; rw [up_same]; exact hr.disj j i b hji hj
        · rw [up_ne _ _ hkn]
          by_cases hki : k = i
          · subst hki; rw [up_same]
          · rw [up_ne _ _ hki]; exact hr.disj j k b hjk hj
  · by_cases hjn : j = n
    · subst hjn; rw [up_same] at hj; exact hr.apart i b hj
    · rw [up_ne _ _ hjn] at hj
      by_cases hji : j = i
      · subst hji; rw [up_same] at hj; exact absurd rfl hj
      · rw [up_ne _ _ hji] at hj; exact hr.apart j b hj
  · by_cases hjn : j = n
    · subst hjn; rw [up_same, Env.up_same, up_same]; exact Res.sat_le hle hs
    · rw [up_ne _ _ hjn, Env.up_ne _ _ hjn, up_ne _ _ hjn]
      by_cases hji : j = i
      · subst hji; rw [up_same]; trivial
      · rw [up_ne _ _ hji, up_ne _ _ hji]; exact Res.sat_le hle (hr.sat j)
  · show β.mem b = none
    by_cases hjn : j = n
    · subst hjn; rw [up_same] at hj; exact hr.fzn.own i b hj
    · rw [up_ne _ _ hjn] at hj
      by_cases hji : j = i
      · subst hji; rw [up_same] at hj; exact absurd rfl hj
      · rw [up_ne _ _ hji] at hj; exact hr.fzn.own j b hj


theorem SV.den_slc_off {β : Env} {j sz lo len N : Nat} {x : Value} {bd : Bd} (hN : β N = none) (hb : β j = some bd) (h : SV.Den β (.cv (.slc j sz lo len none)) x) :
    SV.Den (β.up N (some ⟨bd.addr.map fun a => a.add (lo * sz), bd.cap - lo * sz⟩)) (.cv (.slc N sz 0 len none)) x := by
  obtain ⟨ad, cap, hb', hle, hpos, hmc, ad', hv, haddr⟩ := h
  rw [hb] at hb'
  cases hb'
  have hmul : (lo + len) * sz = lo * sz + len * sz := Nat.add_mul _ _ _
  have hq : (cap - lo * sz) / sz = cap / sz - lo := by rw [Nat.mul_comm, Nat.sub_mul_div]
  refine ⟨_, _, Env.up_same _ _ _, by simp only [Nat.zero_add]; omega, hpos, (fun m hm => by cases hm), ad', ?_, fun hlt => ?_⟩
  · simp only [Option.getD_none, Nat.sub_zero] at hv ⊢
    rw [hq]; exact hv
  · simp only [Option.getD_none, Nat.sub_zero] at hlt haddr
    rw [hq] at hlt
    obtain ⟨a, ha, ha'⟩ := haddr hlt
    refine ⟨a.add (lo * sz), by rw [ha]; rfl, ?_⟩
    rw [ha', Nat.zero_mul]
    congr 1

/-- A slice that begins further on, told as one that begins at its memory's first row. -/
theorem Weak.off {hf : Fr} {kp : Nat} {st : St} (s j sz lo len n : Nat) (f : Nat → List CV) (h1 : st.sl.getD s .any = .cv (.slc j sz lo len none)) (hs : s < st.sl.length) (h2 : lk st.rs j = .recs sz n f) (hle : lo + len ≤ n) (hj : j < st.nx) :
    Weak hf kp st ⟨st.sl.set s (.cv (.slc st.nx sz 0 len none)), setR (setR st.rs j .gone) st.nx (.recs sz len fun i => f (lo + i)), st.nx + 1⟩ := by
  intro c a w hkp hr
  subst hkp
  obtain ⟨⟨β, hh, hfit, hrel, hnx, hB⟩, hlen, hk, hext, hdef⟩ := hr
  have hN : β st.nx = none := hnx _ (Nat.le_refl _)
  have hsat := hrel.sat j
  rw [h2] at hsat
  have hsat0 := hsat
  obtain ⟨h0, ad, cap, hb, hcap, hrow⟩ := hsat
  have hd := hfit.den s
  rw [h1] at hd
  have hmul : (lo + len) * sz = lo * sz + len * sz := Nat.add_mul _ _ _
  have hmul2 : (lo + len) * sz ≤ n * sz := Nat.mul_le_mul_right _ hle
  have hnew : (Res.recs sz len fun i => f (lo + i)).Sat hf β (some ⟨ad.map fun a => a.add (lo * sz), cap - lo * sz⟩) (hh j) := by
    refine ⟨h0, _, _, rfl, by omega, ?_⟩
    rcases hrow with h3 | ⟨b, q, vs, t, fr, e1, e2, e3, e4, e5⟩
    · left; omega
    · refine .inr ⟨b, q + lo * sz, vs, t, fr, by rw [e1]; simp [add_none], by omega, e3, ?_, fun i hi => ?_⟩
      · rw [show q + lo * sz + (cap - lo * sz) = q + cap by omega]; exact e4
      · rw [show q + lo * sz + i * sz = q + (lo + i) * sz by rw [Nat.add_mul]; omega]
        exact e5 (lo + i) (by omega)
  have hle' := Env.le_up (bd := ⟨ad.map fun a => a.add (lo * sz), cap - lo * sz⟩) hN
  obtain ⟨β', hβ'⟩ : ∃ β', β' = β.up st.nx (some ⟨ad.map fun a => a.add (lo * sz), cap - lo * sz⟩) := ⟨_, rfl⟩
  have hle2 : Env.le β β' := hβ' ▸ hle'
  refine ⟨⟨β', up (up hh j (fun _ => none)) st.nx (hh j), ⟨hfit.size, fun i => ?_⟩, ?_, fun i hi => ?_, fun i hi => ?_⟩, ?_, ?_, hext, hdef⟩
  · by_cases hi : i = s
    · subst hi
      simp only [List.getD_eq_getElem?_getD, List.getElem?_set_self hs, Option.getD_some]
      rw [hβ']
      exact SV.den_slc_off hN hb hd
    · simp only [List.getD_eq_getElem?_getD, List.getElem?_set_ne (Ne.symm hi)]
      rw [← List.getD_eq_getElem?_getD]
      exact SV.den_le hle2 _ _ (hfit.den i)
  · rw [lk_setR, lk_setR, hβ']
    exact hrel.moveTo hN (by omega) hnew
  · rw [hβ', Env.up_ne _ _ (by simp only at hi; omega)]; exact hnx i (by simp only at hi; omega)
  · rw [hβ', Env.up_ne _ _ (by omega)]; exact hB i hi
  · simp only [List.length_set]; exact hlen
  · simp only; omega
end Sx

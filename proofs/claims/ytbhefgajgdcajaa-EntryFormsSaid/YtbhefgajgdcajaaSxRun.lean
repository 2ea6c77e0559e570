/- The operations of the engine are those of the model. -/
import Derived.Test.YtbhefgajgdcajaaSxOp
set_option linter.unusedVariables false
set_option linter.unusedSimpArgs false
namespace Sx
open Go

def upds (res : Nat → Res) : List (Nat × Res) → Nat → Res
  | [] => res
  | (i, r) :: l => upds (up res i r) l

/-- What an operation leaves. -/
structure Done (P : Program) (hf : Fr) (run : Result Next) (w : World) (β : Env) (res : Nat → Res) (h : Nat → Hp) (n : Nat) (r : OpRes)
    (v : Value) (w' : World) (β' : Env) (h' : Nat → Hp) : Prop where
  run : run = .ok (.value v) w' ∨ (run = .ok .skip w' ∧ v = undef)
  den : SV.Den β' r.val v
  keep : ∀ i, i ≠ n → β' i = β i
  le : Env.le β β'
  fresh : n ∉ r.upd.map (·.1) → β' n = none
  rel : Rel hf w' β' (upds res r.upd) h'
  ext : Ext w w'

theorem add_spot {a : Addr} (h : a.spot = none) (k : Nat) : (a.add k).spot = none := by
  obtain ⟨b, o, s⟩ := a; simp at h; subst h; rw [add_none]

theorem rp_drop {β : Env} {l : List CV} {a : Addr} (h : CV.Den β (.rp l) (.pointer (some a))) (k : Nat) : CV.Den β (.rp (l.drop k)) (.pointer (some (a.add k))) := by
  obtain ⟨a', vs, h1, h2, h3, h4⟩ := h
  simp only [Value.pointer.injEq, Option.some.injEq] at h1
  subst h1
  refine ⟨a.add k, vs.drop k, rfl, add_spot h2 k, CV.denL_drop _ _ _ h3, fun j hj => ?_⟩
  rw [add_add h2, List.getElem?_drop]
  exact h4 _ (by simp at hj; omega)

/-- A piece of a slice that is never written again. -/
theorem rsl_cut {β : Env} {sz n : Nat} {mc : Option Nat} {f : Nat → List CV} {ad : Option Addr} {cap : Nat} (h : CV.Den β (.rsl sz n mc f) (.slice ad n cap)) {l hh X c : Nat} {mc' : Option Nat} (h1 : l ≤ hh) (h2 : hh ≤ n) (hX : hh ≤ X)
    (hc : hh - l ≤ c) (hmc : ∀ m, mc' = some m → c = m) :
    CV.Den β (.rsl sz (hh - l) mc' (fun j => f (l + j))) (.slice (if X = l then ad else ad.map (·.add (l * sz))) (hh - l) c) := by
  obtain ⟨h0, ad', cap', e1, _, _, e4⟩ := h
  simp only [Value.slice.injEq, true_and] at e1
  obtain ⟨rfl, rfl⟩ := e1
  refine ⟨h0, _, c, rfl, hc, hmc, ?_⟩
  by_cases hz : hh - l = 0
  · exact .inl hz
  rcases e4 with e4 | ⟨a, e5, e6, e7⟩
  · omega
  · subst e5
    refine .inr ⟨a.add (l * sz), by rw [if_neg (by omega)]; rfl, add_spot e6 _, fun i hi => ?_⟩
    obtain ⟨vs, k1, k2, k3⟩ := e7 (l + i) (by omega)
    refine ⟨vs, k1, k2, fun j hj => ?_⟩
    rw [add_add e6, ← k3 j hj]
    congr 2
    rw [Nat.add_mul]; omega

theorem rsl_row {β : Env} {sz n : Nat} {mc : Option Nat} {f : Nat → List CV} {x : Value} (h : CV.Den β (.rsl sz n mc f) x) {i : Nat} (hi : i < n) :
    ∃ a cap, x = .slice (some a) n cap ∧ n ≤ cap ∧ CV.Den β (.rp (f i)) (.pointer (some (a.add (i * sz)))) := by
  obtain ⟨h0, ad, cap, e1, e2, _, e4⟩ := h
  rcases e4 with e4 | ⟨a, rfl, e6, e7⟩
  · omega
  · obtain ⟨vs, k1, k2, k3⟩ := e7 i hi
    have hl := CV.denL_length _ _ k2
    refine ⟨a, cap, e1, e2, a.add (i * sz), vs, rfl, add_spot e6 _, k2, fun j hj => ?_⟩
    rw [add_add e6]; exact k3 j (by omega)

section
variable {P : Program} {hf : Fr} {w : World} {β : Env} {res : Nat → Res} {h : Nat → Hp} {n : Nat} {run : Result Next}

theorem done_pure (hr : Rel hf w β res h) (hn : β n = none) {p : Prop} {x : SV} {v : Value} (hrun : run = .ok (.value v) w) (hd : SV.Den β x v) :
    ∃ v w' β' h', Done P hf run w β res h n ⟨p, x, []⟩ v w' β' h' :=
  ⟨v, w, β, h, ⟨.inl hrun, hd, fun _ _ => rfl, Env.le_refl β, fun _ => hn, hr, Ext.refl w⟩⟩

theorem done_alloc (hr : Rel hf w β res h) (hn : β n = none) {p : Prop} {x : SV} {v : Value} {o : Obj} {bd : Bd} {r : Res} (hrun : run = .ok (.value v) (w.alloc o))
    (hd : SV.Den (β.up n (some bd)) x v) (hs : r.Sat hf (β.up n (some bd)) (some bd) (single w.heap.size o)) :
    ∃ v w' β' h', Done P hf run w β res h n ⟨p, x, [(n, r)]⟩ v w' β' h' :=
  ⟨v, w.alloc o, β.up n (some bd), up h n (single w.heap.size o), ⟨.inl hrun, hd, fun _ hi => Env.up_ne _ _ hi, Env.le_up hn, fun hni => (hni (by simp)).elim,
    hr.alloc hn hs, alloc_ext w o⟩⟩

theorem done_write (hr : Rel hf w β res h) (hn : β n = none) {p : Prop} {i b : Nat} {o o' : Obj} {r : Res} (hi : h i = single b o)
    {x : SV} {v : Value} (hd : SV.Den β x v)
    (hrun : run = .ok .skip (setB w b o') ∧ v = undef ∨ run = .ok (.value v) (setB w b o')) (hs : r.Sat hf β (β i) (single b o')) :
    ∃ v w' β' h', Done P hf run w β res h n ⟨p, x, [(i, r)]⟩ v w' β' h' :=
  ⟨v, setB w b o', β, up h i (single b o'), ⟨hrun.elim .inr .inl, hd, fun _ _ => rfl, Env.le_refl β, fun _ => hn, hr.write hi hs, setB_ext w b o'⟩⟩

/-! ### what cells say -/
theorem sv_cells {β : Env} {s : SV} {x : Value} {cs : List CV} (h : SV.Den β s x) (hc : cellsOf s = some cs) : CV.DenL β cs x.cells.toList := by
  cases s with
  | any => cases hc
  | tup l => cases hc
  | cv c =>
    simp only [cellsOf, Option.some.injEq] at hc
    subst hc
    have hp := CV.den_plain c x h
    have : x.cells = #[x] := by cases x <;> first | rfl | exact hp.elim
    rw [this]
    exact ⟨h, trivial⟩
  | agg l =>
    simp only [cellsOf, Option.some.injEq] at hc
    subst hc
    obtain ⟨vs, rfl, h1⟩ := h
    simpa [Value.cells] using h1

theorem sat_cells {hf : Fr} {β : Env} {bd : Option Bd} {l : List CV} {h : Hp} (hs : (Res.cells l).Sat hf β bd h) :
    ∃ b vs t fr, bd = some ⟨some ⟨b, 0, none⟩, l.length⟩ ∧ CV.DenL β l vs ∧ h = single b (.cells (List.toArray vs) t fr) ∧ Unfr fr l.length := hs

/-- Cells that a resource has, in the world. -/
theorem rget_world (hr : Rel hf w β res h) {i sz idx fld m : Nat} {p : Prop} {l : List CV} (hg : rget (res i) sz idx fld m = some (p, l)) (hp : p) {x : Value}
    (hx : CV.Den β (.ptr i sz idx fld) x) : ∃ a vs, x = .pointer (some a) ∧ a.spot = none ∧ vs.length = m ∧ CV.DenL β l vs ∧ ∀ j, j < m → w.cell? (a.add j) = vs[j]? := by
  obtain ⟨a, cap, hb, rfl⟩ := hx
  have hs := hr.sat i
  rw [hb] at hs
  cases hres : res i with
  | gone => rw [hres] at hg; cases hg
  | rmap _ => rw [hres] at hg; cases hg
  | rmapP _ _ _ => rw [hres] at hg; cases hg
  | chan _ _ => rw [hres] at hg; cases hg
  | cells L =>
    rw [hres] at hg hs
    simp only [rget] at hg
    split at hg
    case isFalse => cases hg
    rename_i hle
    simp only [Option.some.injEq, Prod.mk.injEq] at hg
    obtain ⟨-, rfl⟩ := hg
    obtain ⟨b, vs, t, fr, e1, e2, e3, e4⟩ := hs
    simp only [Option.some.injEq, Bd.mk.injEq] at e1
    obtain ⟨rfl, rfl⟩ := e1
    have hlen := CV.denL_length _ _ e2
    refine ⟨_, (vs.drop (idx * sz + fld)).take m, rfl, by rw [add_none], by simp; omega, CV.denL_take _ _ _ (CV.denL_drop _ _ _ e2), fun j hj => ?_⟩
    rw [add_none, add_none, cell_block (sub_single.1 (e3 ▸ hr.sub i))]
    simp [hj]
  | recs sz' k f =>
    rw [hres] at hg hs
    simp only [rget] at hg
    split at hg
    case isFalse => cases hg
    rename_i hle
    simp only [Option.some.injEq, Prod.mk.injEq] at hg
    obtain ⟨rfl, rfl⟩ := hg
    obtain ⟨rfl, hle⟩ := hle
    obtain ⟨h0, ad, cap', e1, e2, e3⟩ := hs
    simp only [Option.some.injEq, Bd.mk.injEq] at e1
    obtain ⟨rfl, rfl⟩ := e1
    have hmul : idx * sz' + sz' ≤ k * sz' := by
      have := Nat.mul_le_mul_right sz' (Nat.succ_le_of_lt hp)
      simpa [Nat.succ_mul] using this
    rcases e3 with e3 | ⟨b, vs, t, fr, e4, e5, e6, e7, e8⟩
    · omega
    · simp only [Option.some.injEq] at e4
      subst e4
      refine ⟨_, (((vs.drop (idx * sz')).take sz').drop fld).take m, rfl, by rw [add_none], by simp; omega, CV.denL_take _ _ _ (CV.denL_drop _ _ _ (e8 idx hp)), fun j hj => ?_⟩
      rw [add_none, add_none, cell_block (sub_single.1 (e6 ▸ hr.sub i))]
      rw [List.getElem?_take_of_lt hj, List.getElem?_drop, List.getElem?_take_of_lt (by omega), List.getElem?_drop]
      simp [Nat.add_assoc]
  | ro sz' k f =>
    rw [hres] at hg hs
    simp only [rget] at hg
    split at hg
    case isFalse => cases hg
    rename_i hle
    simp only [Option.some.injEq, Prod.mk.injEq] at hg
    obtain ⟨rfl, rfl⟩ := hg
    obtain ⟨rfl, hle⟩ := hle
    obtain ⟨h0, ad, cap', e1, e2, e3⟩ := hs
    simp only [Option.some.injEq, Bd.mk.injEq] at e1
    obtain ⟨rfl, rfl⟩ := e1
    rcases e3 with e3 | ⟨a', e4, e5, e6⟩
    · omega
    · simp only [Option.some.injEq] at e4
      subst e4
      obtain ⟨vs, k1, k2, k3⟩ := e6 idx hp
      refine ⟨_, (vs.drop fld).take m, rfl, ?_, by simp; omega, CV.denL_take _ _ _ (CV.denL_drop _ _ _ k2), fun j hj => ?_⟩
      · obtain ⟨b, o, s⟩ := a; simp at e5; subst e5; rw [add_none]
      · rw [List.getElem?_take_of_lt hj, List.getElem?_drop]
        have hlt : fld + j < vs.length := by omega
        have := k3 (fld + j) (by omega)
        rw [List.getElem?_eq_getElem hlt] at this ⊢
        rw [add_add e5, Nat.add_assoc]
        exact hcell_world hr.frame this
  | frz sz' k f =>
    rw [hres] at hg hs
    simp only [rget] at hg
    split at hg
    case isFalse => cases hg
    rename_i hle
    simp only [Option.some.injEq, Prod.mk.injEq] at hg
    obtain ⟨rfl, rfl⟩ := hg
    obtain ⟨rfl, hle⟩ := hle
    obtain ⟨h0, ad, cap', e1, e2, e3⟩ := hs
    simp only [Option.some.injEq, Bd.mk.injEq] at e1
    obtain ⟨rfl, rfl⟩ := e1
    rcases e3 with e3 | ⟨a', e4, e5, e6⟩
    · omega
    · simp only [Option.some.injEq] at e4
      subst e4
      obtain ⟨vs, k1, k2, k3⟩ := e6 idx hp
      refine ⟨_, (vs.drop fld).take m, rfl, ?_, by simp; omega, CV.denL_take _ _ _ (CV.denL_drop _ _ _ (CV.denL_le (Env.bare_le β) _ _ k2)), fun j hj => ?_⟩
      · obtain ⟨b, o, s⟩ := a; simp at e5; subst e5; rw [add_none]
      · rw [List.getElem?_take_of_lt hj, List.getElem?_drop]
        have hlt : fld + j < vs.length := by omega
        have := k3 (fld + j) (by omega)
        rw [List.getElem?_eq_getElem hlt] at this ⊢
        rw [add_add e5, Nat.add_assoc]
        exact hcell_world hr.fzn.sub this

end

end Sx

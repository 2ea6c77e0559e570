/- The engine's operations are sound, tenth part: rows read as a whole; make; copy; append. -/
import Derived.Test.YtbhefgajgdcajaaSxSnd9
set_option linter.unusedVariables false
set_option linter.unusedSimpArgs false
namespace Sx
open Go

/-- Rows of cells in a world, from an address on. -/
structure RowsAt (w : World) (β : Env) (sz m : Nat) (g : Nat → List CV) (V : List Value) : Prop where
  len : V.length = m * sz
  den : ∀ j, j < m → CV.DenL β (g j) ((V.drop (j * sz)).take sz)

theorem RowsAt.plain {w : World} {β : Env} {sz m : Nat} {g : Nat → List CV} {V : List Value} (h : RowsAt w β sz m g V) (hsz : 0 < sz) : ∀ x ∈ V, Plain x := by
  intro x hx
  obtain ⟨i, hi, rfl⟩ := List.mem_iff_getElem.1 hx
  have hlt : i / sz < m := Nat.div_lt_of_lt_mul (by rw [Nat.mul_comm]; rw [← h.len]; exact hi)
  refine CV.denL_plain _ _ (h.den (i / sz) hlt) _ ?_
  have hmod : i % sz < sz := Nat.mod_lt _ hsz
  have : ((V.drop (i / sz * sz)).take sz)[i % sz]? = some V[i] := by
    rw [row_get _ _ _ _ hmod, Nat.div_add_mod' i sz, List.getElem?_eq_getElem hi]
  exact List.mem_of_getElem? this

/-- From records that lie one behind the other. -/
theorem rows_of {w : World} {β : Env} {sz m : Nat} {g : Nat → List CV} {a : Addr} (hsz : 0 < sz)
    (h : ∀ j, j < m → ∃ vs, vs.length = sz ∧ CV.DenL β (g j) vs ∧ ∀ t, t < sz → w.cell? (a.add (j * sz + t)) = vs[t]?) :
    ∃ V, RowsAt w β sz m g V ∧ ∀ t, t < m * sz → w.cell? (a.add t) = V[t]? := by
  have hsome : ∀ t, t < m * sz → ∃ v, w.cell? (a.add t) = some v := by
    intro t ht
    have hlt : t / sz < m := Nat.div_lt_of_lt_mul (by rw [Nat.mul_comm]; exact ht)
    obtain ⟨vs, h1, h2, h3⟩ := h (t / sz) hlt
    have hmod : t % sz < sz := Nat.mod_lt _ hsz
    have := h3 (t % sz) hmod
    rw [Nat.div_add_mod' t sz] at this
    exact ⟨vs[t % sz]'(by omega), by rw [this, List.getElem?_eq_getElem]⟩
  refine ⟨(List.range (m * sz)).map fun t => (w.cell? (a.add t)).getD undef, ⟨by simp, fun j hj => ?_⟩, fun t ht => ?_⟩
  · obtain ⟨vs, h1, h2, h3⟩ := h j hj
    have hb : j * sz + sz ≤ m * sz := by
      have := Nat.mul_le_mul_right sz (Nat.succ_le_of_lt hj)
      simpa [Nat.succ_mul] using this
    have : ((((List.range (m * sz)).map fun t => (w.cell? (a.add t)).getD undef).drop (j * sz)).take sz) = vs := by
      apply List.ext_getElem?
      intro t
      by_cases ht : t < sz
      · rw [row_get _ _ _ _ ht, List.getElem?_map, List.getElem?_range (by omega), ← h3 t ht]
        obtain ⟨v, hv⟩ := hsome (j * sz + t) (by omega)
        simp [hv]
      · rw [List.getElem?_eq_none (by simp; omega), List.getElem?_eq_none (by omega)]
    rw [this]; exact h2
  · obtain ⟨v, hv⟩ := hsome t ht
    rw [List.getElem?_map, List.getElem?_range ht]; simp [hv]

section
variable {P : Program} {hf : Fr} {w : World} {β : Env} {res : Nat → Res} {h : Nat → Hp}

theorem recs_length {hf : Fr} {β : Env} {bd : Option Bd} {sz m : Nat} {f : Nat → List CV} {p : Hp} (hs : (Res.recs sz m f).Sat hf β bd p) (j : Nat) (hj : j < m) : (f j).length = sz := by
  obtain ⟨h0, ad, cap, _, h2, h3⟩ := hs
  have hb : j * sz + sz ≤ m * sz := by
    have := Nat.mul_le_mul_right sz (Nat.succ_le_of_lt hj)
    simpa [Nat.succ_mul] using this
  rcases h3 with h3 | ⟨b, vs, t, fr, e4, e5, e6, e7, e8⟩
  · omega
  · have := CV.denL_length _ _ (e8 j hj)
    simp at this
    omega

theorem ro_length {hf : Fr} {β : Env} {bd : Option Bd} {sz m : Nat} {f : Nat → List CV} {p : Hp} (hs : (Res.ro sz m f).Sat hf β bd p) (j : Nat) (hj : j < m) : (f j).length = sz := by
  obtain ⟨h0, ad, cap, _, h2, h3⟩ := hs
  rcases h3 with h3 | ⟨a, e1, e2, e3⟩
  · omega
  · obtain ⟨vs, k1, k2, _⟩ := e3 j hj
    have := CV.denL_length _ _ k2
    omega

/-- What a slice's rows are, in the world. -/
theorem src_world (hr : Rel hf w β res h) {sz m : Nat} {v : SV} {rs : List (Nat × Res)} {q : Prop} {g : Nat → List CV} (hsz : 0 < sz) (hs : src sz v rs = some (q, m, g)) (hq : q)
    (hrs : ∀ i ∈ v.nm, res i = lk rs i) {x : Value} (hx : SV.Den β v x) :
    (Builtin.lenOf x).run P w = .ok m w ∧ ∃ V, RowsAt w β sz m g V ∧ ∀ k, k ≤ m → ∀ w' : World, w'.heap = w.heap → (Builtin.firstCells sz k x).run P w' = .ok (V.take (k * sz)).toArray w' := by
  unfold src at hs
  split at hs
  · simp only [Option.some.injEq, Prod.mk.injEq] at hs
    obtain ⟨rfl, rfl, rfl⟩ := hs
    rw [hx.1]
    exact ⟨by simp [Builtin.lenOf], [], ⟨by simp, by simp⟩, fun k hk w' _ => by simp [Builtin.firstCells]⟩
  · rename_i s
    split at hs
    case isFalse => cases hs
    rename_i h1; subst h1
    simp only [Option.some.injEq, Prod.mk.injEq] at hs
    obtain ⟨rfl, rfl, rfl⟩ := hs
    rw [hx.1]
    have hlen : s.data.toList.length = s.size := by simp
    refine ⟨by simp [Builtin.lenOf], s.data.toList.map fun b => .int .u8 b.toNat, ⟨by simp, fun j hj => ?_⟩, fun k hk w' _ => ?_⟩
    · simp only [Nat.mul_one]
      rw [← List.map_drop, List.drop_eq_getElem_cons (by omega), List.map_cons, List.take_succ_cons, List.take_zero]
      refine ⟨⟨?_, trivial⟩, trivial⟩
      unfold sbyte
      rw [List.getD_eq_getElem?_getD, List.getElem?_eq_getElem (by omega)]
      rfl
    · simp only [Builtin.firstCells, Sem.run_pure, Nat.mul_one]
      congr 1
      apply Array.ext'
      rw [Array.toList_map, List.toList_toArray, ← List.map_take]
      congr 1
      have : (s.extract 0 k).data.toList = s.data.toList.take k := by
        rw [ByteArray.data_extract, Array.toList_extract, List.extract_eq_take_drop]
        simp
      rw [this]
  · rename_i i sz' lo len mc
    split at hs
    case isFalse => cases hs
    rename_i h1; subst h1
    have hri := hrs i (by simp [SV.nm])
    rw [← hri] at hs
    obtain ⟨ad, cap, hb, hle, hpos, hmc, ad', hv, haddr⟩ := hx
    have hsat := hr.sat i
    have hc0 : 0 < len → 0 < mc.getD (cap / sz' - lo) := by
      intro hl
      cases mc with
      | none =>
        simp only [Option.getD_none]
        have : (lo + len) ≤ cap / sz' := (Nat.le_div_iff_mul_le hpos).2 hle
        omega
      | some m => have := (hmc m rfl).1; simp only [Option.getD_some]; omega
    -- the length, and the cells' facts
    have fin : ∀ (g : Nat → List CV), (∀ a, ad = some a → ∀ j, j < len → ∃ vs, vs.length = sz' ∧ CV.DenL β (g j) vs ∧ ∀ t, t < sz' → w.cell? (a.add ((lo + j) * sz' + t)) = vs[t]?) →
        (Builtin.lenOf x).run P w = .ok len w ∧ ∃ V, RowsAt w β sz' len g V ∧ ∀ k, k ≤ len → ∀ w' : World, w'.heap = w.heap → (Builtin.firstCells sz' k x).run P w' = .ok (V.take (k * sz')).toArray w' := by
      intro g hg
      rw [hv]
      refine ⟨by simp [Builtin.lenOf], ?_⟩
      rcases Nat.eq_zero_or_pos len with h0 | h0
      · subst h0
        refine ⟨[], ⟨by simp, fun j hj => by omega⟩, fun k hk w' _ => ?_⟩
        have : k = 0 := by omega
        subst this
        cases ad' with
        | none => simp [Builtin.firstCells]
        | some a => simp [Builtin.firstCells, loadCells, loadCellsFrom]
      · obtain ⟨a, ha, ha'⟩ := haddr (hc0 h0)
        subst ha'
        obtain ⟨V, hV1, hV2⟩ := rows_of (w := w) (β := β) (g := g) (m := len) (a := a.add (lo * sz')) hsz (fun j hj => by
          obtain ⟨vs, e1, e2, e3⟩ := hg a ha j hj
          refine ⟨vs, e1, e2, fun t ht => ?_⟩
          rw [add_add', ← e3 t ht, Nat.add_mul, Nat.add_assoc])
        refine ⟨V, hV1, fun k hk w' hw' => ?_⟩
        have hk2 : k * sz' ≤ len * sz' := Nat.mul_le_mul_right _ hk
        simp only [Builtin.firstCells]
        refine Sx.run_loadCells (by have := hV1.len; simp; omega) (fun j hj => ?_)
        rw [List.getElem?_take_of_lt hj, ← hV2 j (by omega)]
        simp only [World.cell?, hw']
    split at hs
    · rename_i l hres
      simp only [Option.some.injEq, Prod.mk.injEq] at hs
      obtain ⟨rfl, rfl, rfl⟩ := hs
      rw [hres] at hsat
      obtain ⟨b, vs, t, fr, e1, e2, e3, e4⟩ := hsat
      rw [hb] at e1
      simp only [Option.some.injEq, Bd.mk.injEq] at e1
      obtain ⟨rfl, rfl⟩ := e1
      have hll := CV.denL_length _ _ e2
      refine fin _ (fun a ha j hj => ?_)
      simp only [Option.some.injEq] at ha; subst ha
      have hbj : (lo + j) * sz' + sz' ≤ l.length := by
        have := Nat.mul_le_mul_right sz' (show lo + j + 1 ≤ lo + len by omega)
        rw [Nat.add_mul, Nat.one_mul] at this
        omega
      refine ⟨(vs.drop ((lo + j) * sz')).take sz', by simp; omega, CV.denL_take _ _ _ (CV.denL_drop _ _ _ e2), fun t ht => ?_⟩
      rw [add_none, cell_block (sub_single.1 (e3 ▸ hr.sub i)), row_get _ _ _ _ ht]
      simp
    · rename_i sz'' k f hres
      split at hs
      case isFalse => cases hs
      rename_i h1; subst h1
      simp only [Option.some.injEq, Prod.mk.injEq] at hs
      obtain ⟨rfl, rfl, rfl⟩ := hs
      rw [hres] at hsat
      obtain ⟨h0, ad2, cap2, e1, e2, e3⟩ := hsat
      rw [hb] at e1
      simp only [Option.some.injEq, Bd.mk.injEq] at e1
      obtain ⟨rfl, rfl⟩ := e1
      refine fin _ (fun a ha j hj => ?_)
      have hbj : (lo + j) * sz'' + sz'' ≤ k * sz'' := by
        have := Nat.mul_le_mul_right sz'' (show lo + j + 1 ≤ k by omega)
        rw [Nat.add_mul, Nat.one_mul] at this
        omega
      rcases e3 with e3 | ⟨b, vs, t, fr, e4, e5, e6, e7, e8⟩
      · omega
      · rw [ha] at e4
        simp only [Option.some.injEq] at e4; subst e4
        refine ⟨(vs.drop ((lo + j) * sz'')).take sz'', by simp; omega, e8 (lo + j) (by omega), fun t ht => ?_⟩
        rw [add_none, cell_block (sub_single.1 (e6 ▸ hr.sub i)), row_get _ _ _ _ ht]
        simp
    · rename_i sz'' k f hres
      split at hs
      case isFalse => cases hs
      rename_i h1; subst h1
      simp only [Option.some.injEq, Prod.mk.injEq] at hs
      obtain ⟨rfl, rfl, rfl⟩ := hs
      rw [hres] at hsat
      obtain ⟨h0, ad2, cap2, e1, e2, e3⟩ := hsat
      rw [hb] at e1
      simp only [Option.some.injEq, Bd.mk.injEq] at e1
      obtain ⟨rfl, rfl⟩ := e1
      refine fin _ (fun a ha j hj => ?_)
      rcases e3 with e3 | ⟨a', e4, e5, e6⟩
      · omega
      · rw [ha] at e4
        simp only [Option.some.injEq] at e4; subst e4
        obtain ⟨vs, k1, k2, k3⟩ := e6 (lo + j) (by omega)
        refine ⟨vs, k1, k2, fun t ht => ?_⟩
        have := k3 t ht
        rw [List.getElem?_eq_getElem (by omega)] at this ⊢
        exact hcell_world hr.frame this
    · rename_i sz'' k f hres
      split at hs
      case isFalse => cases hs
      rename_i h1; subst h1
      simp only [Option.some.injEq, Prod.mk.injEq] at hs
      obtain ⟨rfl, rfl, rfl⟩ := hs
      rw [hres] at hsat
      obtain ⟨h0, ad2, cap2, e1, e2, e3⟩ := hsat
      rw [hb] at e1
      simp only [Option.some.injEq, Bd.mk.injEq] at e1
      obtain ⟨rfl, rfl⟩ := e1
      refine fin _ (fun a ha j hj => ?_)
      rcases e3 with e3 | ⟨a', e4, e5, e6⟩
      · omega
      · rw [ha] at e4
        simp only [Option.some.injEq] at e4; subst e4
        obtain ⟨vs, k1, k2, k3⟩ := e6 (lo + j) (by omega)
        refine ⟨vs, k1, CV.denL_le (Env.bare_le β) _ _ k2, fun t ht => ?_⟩
        have := k3 t ht
        rw [List.getElem?_eq_getElem (by omega)] at this ⊢
        exact hcell_world hr.fzn.sub this
    · cases hs
  · rename_i sz' len mc f
    split at hs
    case isFalse => cases hs
    rename_i h1; subst h1
    simp only [Option.some.injEq, Prod.mk.injEq] at hs
    obtain ⟨rfl, rfl, rfl⟩ := hs
    obtain ⟨h0, ad, cap, hv, hle, hmc, e3⟩ := hx
    rw [hv]
    refine ⟨by simp [Builtin.lenOf], ?_⟩
    rcases Nat.eq_zero_or_pos len with hl0 | hl0
    · subst hl0
      refine ⟨[], ⟨by simp, fun j hj => by omega⟩, fun k hk w' _ => ?_⟩
      have : k = 0 := by omega
      subst this
      cases ad with
      | none => simp [Builtin.firstCells]
      | some a => simp [Builtin.firstCells, loadCells, loadCellsFrom]
    · rcases e3 with e3 | ⟨a, rfl, e5, e6⟩
      · omega
      · obtain ⟨V, hV1, hV2⟩ := rows_of (w := w) (β := β) (g := f) (m := len) (a := a) hsz (fun j hj => by
          obtain ⟨vs, k1, k2, k3⟩ := e6 j hj
          refine ⟨vs, k1, CV.denL_le (Env.bare_le β) _ _ k2, fun t ht => ?_⟩
          have := k3 t ht
          rw [List.getElem?_eq_getElem (by omega)] at this ⊢
          exact hcell_world hr.fzn.sub this)
        refine ⟨V, hV1, fun k hk w' hw' => ?_⟩
        have hk2 : k * sz' ≤ len * sz' := Nat.mul_le_mul_right _ hk
        simp only [Builtin.firstCells]
        refine Sx.run_loadCells (by have := hV1.len; simp; omega) (fun j hj => ?_)
        rw [List.getElem?_take_of_lt hj, ← hV2 j (by omega)]
        simp only [World.cell?, hw']
  · cases hs

end
end Sx

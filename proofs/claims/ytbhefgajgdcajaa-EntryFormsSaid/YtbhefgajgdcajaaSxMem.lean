/- Memory under the engine: what a load, a store, a new block do to a world that fits a deep state. -/
import Derived.Test.YtbhefgajgdcajaaSxBase
set_option linter.unusedVariables false
set_option linter.unusedSimpArgs false
namespace Sx
open Go

def up {α : Type} (f : Nat → α) (i : Nat) (x : α) : Nat → α := fun j => if j = i then x else f j
theorem up_same {α : Type} (f : Nat → α) (i : Nat) (x : α) : up f i x i = x := by simp [up]
theorem up_ne {α : Type} (f : Nat → α) {i j : Nat} (x : α) (h : j ≠ i) : up f i x j = f j := by simp [up, h]

def Env.up (β : Env) (n : Nat) (x : Option Bd) : Env := ⟨Sx.up β.nm n x, β.mem⟩
theorem Env.up_same (β : Env) (n : Nat) (x : Option Bd) : (β.up n x) n = x := Sx.up_same _ _ _
theorem Env.up_ne (β : Env) {n j : Nat} (x : Option Bd) (h : j ≠ n) : (β.up n x) j = β j := Sx.up_ne _ _ h

def setB (w : World) (b : Nat) (o : Obj) : World := { w with heap := w.heap.setIfInBounds b o }

theorem setB_get_same {w : World} {b : Nat} {o o' : Obj} (h : w.heap[b]? = some o) : (setB w b o').heap[b]? = some o' := by
  obtain ⟨hlt, _⟩ := Array.getElem?_eq_some_iff.1 h
  simp [setB, hlt]
theorem setB_get_ne {w : World} {b c : Nat} {o' : Obj} (h : c ≠ b) : (setB w b o').heap[c]? = w.heap[c]? := by
  simp [setB, Array.getElem?_setIfInBounds_ne (Ne.symm h)]
theorem setB_ext (w : World) (b : Nat) (o : Obj) : Ext w (setB w b o) := ⟨rfl, rfl, rfl, by simp [setB]⟩
theorem setB_self {w : World} {b : Nat} {o : Obj} (h : w.heap[b]? = some o) : setB w b o = w := by
  obtain ⟨hlt, hh⟩ := Array.getElem?_eq_some_iff.1 h
  unfold setB
  have : w.heap.setIfInBounds b o = w.heap := by
    apply Array.ext (by simp)
    intro i h1 h2
    by_cases hi : i = b
    · subst hi; simpa using hh.symm
    · rw [Array.getElem_setIfInBounds_ne (by simpa using h2) (Ne.symm hi)]
  rw [this]

theorem single_same (b : Nat) (o : Obj) : single b o b = some o := by simp [single]
theorem single_ne {b c : Nat} (o : Obj) (h : c ≠ b) : single b o c = none := by simp [single, h]
theorem single_some {b c : Nat} {o o' : Obj} (h : single b o c = some o') : c = b ∧ o' = o := by
  unfold single at h
  split at h
  · rename_i hc; exact ⟨hc, (Option.some.inj h).symm⟩
  · cases h

theorem sub_single {w : World} {b : Nat} {o : Obj} : Sub (single b o) w ↔ w.heap[b]? = some o := by
  constructor
  · intro h; exact h b o (single_same b o)
  · intro h c o' hc
    obtain ⟨rfl, rfl⟩ := single_some hc
    exact h

section
variable {hf : Fr} {w w' : World} {β : Env} {res : Nat → Res} {h : Nat → Hp}

theorem Rel.heap_eq (hr : Rel hf w β res h) (he : w'.heap = w.heap) : Rel hf w' β res h :=
  ⟨fun b o hb => by rw [he]; exact hr.frame b o hb, fun i b o hb => by rw [he]; exact hr.sub i b o hb, hr.disj, hr.apart, hr.sat,
    ⟨hr.fzn.old, hr.fzn.new, fun b o hb => by rw [he]; exact hr.fzn.sub b o hb, hr.fzn.own⟩⟩

/-- A name let go. -/
theorem Rel.drop (hr : Rel hf w β res h) (i : Nat) : Rel hf w β (up res i .gone) h :=
  ⟨hr.frame, hr.sub, hr.disj, hr.apart, fun j => by
    by_cases hj : j = i
    · subst hj; rw [up_same]; trivial
    · rw [up_ne _ _ hj]; exact hr.sat j, hr.fzn⟩

/-- What a name holds, told otherwise. -/
theorem Rel.same (hr : Rel hf w β res h) {i : Nat} {r : Res} (hs : r.Sat hf β (β i) (h i)) : Rel hf w β (up res i r) h :=
  ⟨hr.frame, hr.sub, hr.disj, hr.apart, fun j => by
    by_cases hj : j = i
    · subst hj; rw [up_same]; exact hs
    · rw [up_ne _ _ hj]; exact hr.sat j, hr.fzn⟩

theorem Rel.write (hr : Rel hf w β res h) {i b : Nat} {o o' : Obj} {r : Res} (hi : h i = single b o) (hs : r.Sat hf β (β i) (single b o')) :
    Rel hf (setB w b o') β (up res i r) (up h i (single b o')) := by
  have hb : w.heap[b]? = some o := sub_single.1 (hi ▸ hr.sub i)
  have hne : h i b ≠ none := by rw [hi, single_same]; simp
  refine ⟨fun c q hc => ?_, fun j c q hc => ?_, fun j k c hjk hc => ?_, fun j c hc => ?_, fun j => ?_, hr.fzn.old, hr.fzn.new, fun c q hc => ?_, fun j c hc => ?_⟩
  · have : c ≠ b := fun e => by rw [e, hr.apart i b hne] at hc; cases hc
    rw [setB_get_ne this]; exact hr.frame c q hc
  · by_cases hj : j = i
    · subst hj; rw [up_same] at hc
      obtain ⟨rfl, rfl⟩ := single_some hc
      exact setB_get_same hb
    · rw [up_ne _ _ hj] at hc
      have : c ≠ b := fun e => by
        have h1 := hr.disj i j b (Ne.symm hj) hne
        rw [e, h1] at hc; cases hc
      rw [setB_get_ne this]; exact hr.sub j c q hc
  · by_cases hj : j = i
    · subst hj; rw [up_same] at hc; rw [up_ne _ _ (Ne.symm hjk)]
      have : c = b := by
        by_cases e : c = b
        · exact e
        · rw [single_ne _ e] at hc; exact absurd rfl hc
      rw [this]; exact hr.disj j k b hjk hne
    · rw [up_ne _ _ hj] at hc
      by_cases hk : k = i
      · subst hk; rw [up_same]
        by_cases e : c = b
        · rw [e] at hc; exact absurd (hr.disj k j b (Ne.symm hj) hne) hc
        · exact single_ne _ e
      · rw [up_ne _ _ hk]; exact hr.disj j k c hjk hc
  · by_cases hj : j = i
    · subst hj; rw [up_same] at hc
      have : c = b := by
        by_cases e : c = b
        · exact e
        · rw [single_ne _ e] at hc; exact absurd rfl hc
      rw [this]; exact hr.apart j b hne
    · rw [up_ne _ _ hj] at hc; exact hr.apart j c hc
  · by_cases hj : j = i
    · subst hj; rw [up_same, up_same]; exact hs
    · rw [up_ne _ _ hj, up_ne _ _ hj]; exact hr.sat j
  · have : c ≠ b := fun e => by rw [e, hr.fzn.own i b hne] at hc; cases hc
    rw [setB_get_ne this]; exact hr.fzn.sub c q hc
  · by_cases hj : j = i
    · subst hj; rw [up_same] at hc
      have : c = b := by
        by_cases e : c = b
        · exact e
        · rw [single_ne _ e] at hc; exact absurd rfl hc
      rw [this]; exact hr.fzn.own j b hne
    · rw [up_ne _ _ hj] at hc; exact hr.fzn.own j c hc

theorem Env.le_up {n : Nat} {bd : Bd} (hn : β n = none) : Env.le β (β.up n (some bd)) := ⟨fun i b hb => by
  by_cases hi : i = n
  · subst hi; rw [hn] at hb; cases hb
  · rw [Env.up_ne _ _ hi]; exact hb, fun _ _ h => h⟩

/-- A new name for what needs no memory of its own, or for memory that the frame holds. -/
theorem Rel.name (hr : Rel hf w β res h) {n : Nat} {bd : Bd} {r : Res} (hn : β n = none) (hs : r.Sat hf (β.up n (some bd)) (some bd) (h n)) :
    Rel hf w (β.up n (some bd)) (up res n r) h :=
  ⟨hr.frame, hr.sub, hr.disj, hr.apart, fun j => by
    by_cases hj : j = n
    · subst hj; rw [up_same, Env.up_same]; exact hs
    · rw [up_ne _ _ hj, Env.up_ne _ _ hj]; exact Res.sat_le (Env.le_up hn) (hr.sat j), ⟨hr.fzn.old, hr.fzn.new, hr.fzn.sub, hr.fzn.own⟩⟩

theorem Rel.alloc (hr : Rel hf w β res h) {n : Nat} {bd : Bd} {r : Res} {o : Obj} (hn : β n = none)
    (hs : r.Sat hf (β.up n (some bd)) (some bd) (single w.heap.size o)) :
    Rel hf (w.alloc o) (β.up n (some bd)) (up res n r) (up h n (single w.heap.size o)) := by
  have hlt : ∀ {p : Hp}, Sub p w → ∀ c, p c ≠ none → c < w.heap.size := fun {p} hp c hc => by
    cases hq : p c with
    | none => exact absurd hq hc
    | some q => exact (Array.getElem?_eq_some_iff.1 (hp c q hq)).1
  have hold : ∀ c, c < w.heap.size → (w.alloc o).heap[c]? = w.heap[c]? := fun c hc => by
    show (w.heap.push o)[c]? = _
    rw [Array.getElem?_push, if_neg (by omega)]
  refine ⟨fun c q hc => ?_, fun j c q hc => ?_, fun j k c hjk hc => ?_, fun j c hc => ?_, fun j => ?_, hr.fzn.old, hr.fzn.new, fun c q hc => ?_, fun j c hc => ?_⟩
  · rw [hold c (hlt hr.frame c (by rw [hc]; simp))]; exact hr.frame c q hc
  · by_cases hj : j = n
    · subst hj; rw [up_same] at hc
      obtain ⟨rfl, rfl⟩ := single_some hc
      show (w.heap.push q)[w.heap.size]? = _
      simp
    · rw [up_ne _ _ hj] at hc
      rw [hold c (hlt (hr.sub j) c (by rw [hc]; simp))]; exact hr.sub j c q hc
  · by_cases hj : j = n
    · subst hj; rw [up_same] at hc; rw [up_ne _ _ (Ne.symm hjk)]
      have : c = w.heap.size := by
        by_cases e : c = w.heap.size
        · exact e
        · rw [single_ne _ e] at hc; exact absurd rfl hc
      cases hk : h k c with
      | none => rfl
      | some q => have := hlt (hr.sub k) c (by rw [hk]; simp); omega
    · rw [up_ne _ _ hj] at hc
      by_cases hk : k = n
      · subst hk; rw [up_same]
        have := hlt (hr.sub j) c hc
        exact single_ne _ (by omega)
      · rw [up_ne _ _ hk]; exact hr.disj j k c hjk hc
  · by_cases hj : j = n
    · subst hj; rw [up_same] at hc
      have : c = w.heap.size := by
        by_cases e : c = w.heap.size
        · exact e
        · rw [single_ne _ e] at hc; exact absurd rfl hc
      cases hk : hf c with
      | none => rfl
      | some q => have := hlt hr.frame c (by rw [hk]; simp); omega
    · rw [up_ne _ _ hj] at hc; exact hr.apart j c hc
  · by_cases hj : j = n
    · subst hj; rw [up_same, Env.up_same, up_same]; exact hs
    · rw [up_ne _ _ hj, Env.up_ne _ _ hj, up_ne _ _ hj]; exact Res.sat_le (Env.le_up hn) (hr.sat j)
  · rw [hold c (hlt hr.fzn.sub c (by rw [show β.mem c = some q from hc]; simp))]; exact hr.fzn.sub c q hc
  · show β.mem c = none
    by_cases hj : j = n
    · subst hj; rw [up_same] at hc
      have : c = w.heap.size := by
        by_cases e : c = w.heap.size
        · exact e
        · rw [single_ne _ e] at hc; exact absurd rfl hc
      cases hk : β.mem c with
      | none => rfl
      | some o => have := hlt hr.fzn.sub c (by rw [hk]; simp); omega
    · rw [up_ne _ _ hj] at hc; exact hr.fzn.own j c hc
end

/-- More memory that is never written again. -/
def Env.more (β : Env) (p : Hp) : Env := ⟨β.nm, fun b => match β.mem b with
  | some o => some o
  | none => p b⟩
theorem Env.le_more (β : Env) (p : Hp) : Env.le β (β.more p) := ⟨fun _ _ h => h, fun b o h => by simp only [Env.more, h]⟩
theorem Env.more_sub {β : Env} {p : Hp} (h : ∀ b, p b ≠ none → β.mem b = none) : ∀ b o, p b = some o → (β.more p).mem b = some o := fun b o hb => by
  simp only [Env.more]
  rw [h b (by rw [hb]; simp)]; exact hb

/-- A name's memory is never written again. -/
theorem Rel.freeze {hf : Fr} {w : World} {β : Env} {res : Nat → Res} {h : Nat → Hp} (hr : Rel hf w β res h) {i sz n : Nat} {g : Nat → List CV} (h0 : 0 < sz) {ad : Option Addr} {cap : Nat} (hb : β i = some ⟨ad, cap⟩) (hc : n * sz ≤ cap)
    (hg : n = 0 ∨ ∃ a, ad = some a ∧ a.spot = none ∧ ∀ k, k < n → ∃ vs, vs.length = sz ∧ CV.DenL β.bare (g k) vs ∧ ∀ j, j < sz → hcell (h i) (a.add (k * sz + j)) = vs[j]?) :
    Rel hf w (β.more (h i)) (up res i (.frz sz n g)) (up h i (fun _ => none)) := by
  have hle := Env.le_more β (h i)
  have hsub := Env.more_sub (β := β) (p := h i) (fun b hb => hr.fzn.own i b hb)
  have hcase : ∀ b, (β.more (h i)).mem b ≠ none → β.mem b ≠ none ∨ (β.mem b = none ∧ h i b ≠ none) := fun b hb => by
    simp only [Env.more] at hb
    cases hm : β.mem b with
    | some o => exact .inl (by simp)
    | none => rw [hm] at hb; exact .inr ⟨rfl, hb⟩
  refine ⟨hr.frame, fun j b o hj => ?_, fun j k b hjk hj => ?_, fun j b hj => ?_, fun j => ?_, fun b o hb => hle.mem _ _ (hr.fzn.old b o hb), fun b hb => ?_, fun b o hb => ?_, fun j b hj => ?_⟩
  · by_cases hji : j = i
    · subst hji; rw [up_same] at hj; cases hj
    · rw [up_ne _ _ hji] at hj; exact hr.sub j b o hj
  · by_cases hji : j = i
    · subst hji; rw [up_same] at hj; exact absurd rfl hj
    · rw [up_ne _ _ hji] at hj
      by_cases hki : k = i
      · subst hki; rw [up_same]
      · rw [up_ne _ _ hki]; exact hr.disj j k b hjk hj
  · by_cases hji : j = i
    · subst hji; rw [up_same] at hj; exact absurd rfl hj
    · rw [up_ne _ _ hji] at hj; exact hr.apart j b hj
  · by_cases hji : j = i
    · subst hji
      rw [up_same, up_same]
      refine ⟨h0, ad, cap, hb, hc, ?_⟩
      rcases hg with hg | ⟨a, e1, e2, e3⟩
      · exact .inl hg
      · refine .inr ⟨a, e1, e2, fun k hk => ?_⟩
        obtain ⟨vs, k1, k2, k3⟩ := e3 k hk
        refine ⟨vs, k1, CV.denL_le (Env.le_bare hle.mem) _ _ k2, fun x hx => ?_⟩
        have := k3 x hx
        rw [List.getElem?_eq_getElem (by omega)] at this ⊢
        exact hcell_sub hsub this
    · rw [up_ne _ _ hji, up_ne _ _ hji]; exact Res.sat_le hle (hr.sat j)
  · rcases hcase b hb with h1 | ⟨_, h1⟩
    · exact hr.fzn.new b h1
    · exact .inr (hr.apart i b h1)
  · simp only [Env.more] at hb
    split at hb
    · rename_i o' hm; simp only [Option.some.injEq] at hb; subst hb; exact hr.fzn.sub b _ hm
    · exact hr.sub i b o hb
  · by_cases hji : j = i
    · subst hji; rw [up_same] at hj; exact absurd rfl hj
    · rw [up_ne _ _ hji] at hj
      cases hm : (β.more (h i)).mem b with
      | none => rfl
      | some o =>
        rcases hcase b (by rw [hm]; simp) with h1 | ⟨_, h1⟩
        · exact absurd (hr.fzn.own j b hj) h1
        · exact absurd (hr.disj j i b hji hj) h1

theorem alloc_ext (w : World) (o : Obj) : Ext w (w.alloc o) := ⟨rfl, rfl, rfl, by simp⟩

/-! ### loads and stores of rows of cells -/
theorem add_none (b o n : Nat) : (⟨b, o, none⟩ : Addr).add n = ⟨b, o + n, none⟩ := by
  unfold Addr.add; split
  · rename_i h; subst h; rfl
  · rfl
theorem add_add {a : Addr} (h : a.spot = none) (m n : Nat) : (a.add m).add n = a.add (m + n) := by
  obtain ⟨b, o, s⟩ := a
  simp at h; subst h
  rw [add_none, add_none, add_none, Nat.add_assoc]

theorem run_load {P : Program} {w : World} {a : Addr} {v : Value} (h : w.cell? a = some v) : (load a).run P w = .ok v w := by
  simp [load, Sem.run, h]

theorem run_loadCellsFrom {P : Program} {w : World} (a : Addr) : ∀ (vs : List Value) (i : Nat) (acc : Array Value),
    (∀ j, j < vs.length → w.cell? (a.add (i + j)) = vs[j]?) → (loadCellsFrom a i vs.length acc).run P w = .ok (acc ++ vs.toArray) w := by
  intro vs
  induction vs with
  | nil => intro i acc _; simp [loadCellsFrom, pure]
  | cons v vs ih =>
    intro i acc hc
    have h0 := hc 0 (by simp)
    simp at h0
    have ih' := ih (i + 1) (acc.push v) (fun j hj => by
      have := hc (j + 1) (by simpa using hj)
      simpa [Nat.add_assoc, Nat.add_comm 1 j] using this)
    simp [loadCellsFrom, load, bind, Sem.bind, Sem.run, h0]
    rw [ih']
    simp

theorem run_loadCells {P : Program} {w : World} {a : Addr} {vs : List Value} {n : Nat} (hn : vs.length = n)
    (hc : ∀ j, j < n → w.cell? (a.add j) = vs[j]?) : (loadCells a n).run P w = .ok vs.toArray w := by
  subst hn
  unfold loadCells
  rw [run_loadCellsFrom a vs 0 #[] (by simpa using hc)]
  simp

theorem cell_block {w : World} {b k : Nat} {vs : Array Value} {t : TypeId} {fr : Nat × Nat} (h : w.heap[b]? = some (.cells vs t fr)) :
    w.cell? ⟨b, k, none⟩ = vs[k]? := by
  simp [World.cell?, h]

theorem hcell_world {hf : Hp} {w : World} (h : Sub hf w) {a : Addr} {v : Value} (hc : hcell hf a = some v) : w.cell? a = some v := by
  unfold hcell at hc
  unfold World.cell?
  cases hq : hf a.block with
  | none => rw [hq] at hc; cases hc
  | some o => rw [hq] at hc; rw [h _ _ hq]; exact hc

def splice (vs : List Value) (off : Nat) (xs : List Value) : List Value := vs.take off ++ xs ++ vs.drop (off + xs.length)

theorem splice_nil (vs : List Value) (off : Nat) : splice vs off [] = vs := by simp [splice]
theorem splice_length {vs : List Value} {off : Nat} {xs : List Value} (h : off + xs.length ≤ vs.length) : (splice vs off xs).length = vs.length := by
  simp [splice]; omega
theorem splice_cons {vs : List Value} {off : Nat} {x : Value} {xs : List Value} (h : off + (x :: xs).length ≤ vs.length) :
    splice (vs.set off x) (off + 1) xs = splice vs off (x :: xs) := by
  simp at h
  unfold splice
  rw [List.set_eq_take_append_cons_drop, if_pos (by omega)]
  have e1 : (vs.take off ++ x :: vs.drop (off + 1)).take (off + 1) = vs.take off ++ [x] := by
    rw [List.take_append]; simp
    rw [show off + 1 - min off vs.length = 1 by omega]
    simp
    exact List.take_of_length_le (by simp; omega)
  have e2 : (vs.take off ++ x :: vs.drop (off + 1)).drop (off + 1 + xs.length) = vs.drop (off + (x :: xs).length) := by
    rw [List.drop_append]; simp
    rw [show off + 1 + xs.length - min off vs.length = xs.length + 1 by omega]
    rw [List.drop_eq_nil_of_le (by simp; omega)]
    simp
    congr 1
    omega
  rw [e1, e2]
  simp

theorem frozen_not {w : World} {b k : Nat} {vs : Array Value} {t : TypeId} {fr : Nat × Nat} (h : w.heap[b]? = some (.cells vs t fr)) (hu : ¬ (fr.1 ≤ k ∧ k < fr.2)) :
    w.frozen? ⟨b, k, none⟩ = false := by
  unfold World.frozen?
  simp only [h]
  simpa using hu

theorem setCell_setB {w : World} {b k : Nat} {vs : List Value} {t : TypeId} {fr : Nat × Nat} (h : w.heap[b]? = some (.cells vs.toArray t fr)) (v : Value) :
    w.setCell ⟨b, k, none⟩ v = setB w b (.cells (vs.set k v).toArray t fr) := by
  unfold World.setCell setB
  obtain ⟨hlt, hh⟩ := Array.getElem?_eq_some_iff.1 h
  congr 1
  apply Array.ext (by simp)
  intro i h1 h2
  by_cases hi : i = b
  · subst hi
    simp [Array.getElem_modify, hh]
  · rw [Array.getElem_modify, if_neg (by simpa using Ne.symm hi), Array.getElem_setIfInBounds_ne (by simpa using h2) (Ne.symm hi)]

theorem run_store {P : Program} {w : World} {a : Addr} {v x : Value} (hp : Plain x) (h : w.cell? a = some v) (hz : w.frozen? a = false) :
    (store a x).run P w = .ok () (w.setCell a x) := by
  unfold store
  cases x <;> first | exact hp.elim | simp [Sem.run, h, hz]

theorem run_storeCells {P : Program} {b : Nat} {t : TypeId} {fr : Nat × Nat} (o0 : Nat) : ∀ (xs : List Value) (w : World) (vs : List Value) (i : Nat),
    w.heap[b]? = some (.cells vs.toArray t fr) → Unfr fr vs.length → (∀ x ∈ xs, Plain x) → o0 + i + xs.length ≤ vs.length →
    (storeCells ⟨b, o0, none⟩ xs i).run P w = .ok () (setB w b (.cells (splice vs (o0 + i) xs).toArray t fr)) := by
  intro xs
  induction xs with
  | nil => intro w vs i hb _ _ _; rw [splice_nil, setB_self hb]; simp [storeCells, pure]
  | cons x xs ih =>
    intro w vs i hb hu hp hl
    simp at hl
    have hc : w.cell? ⟨b, o0 + i, none⟩ = some (vs[o0 + i]'(by omega)) := by
      rw [cell_block hb]; simp
    have hz := frozen_not hb (hu.no (o := o0 + i) (by omega))
    have h1 := run_store (P := P) (hp x (by simp)) hc hz
    rw [setCell_setB hb] at h1
    have h2 := ih (setB w b (.cells (vs.set (o0 + i) x).toArray t fr)) (vs.set (o0 + i) x) (i + 1) (setB_get_same hb) (by simpa using hu)
      (fun y hy => hp y (by simp [hy])) (by simp; omega)
    rw [show o0 + (i + 1) = o0 + i + 1 by omega, splice_cons (by simp; omega)] at h2
    have h3 : setB (setB w b (.cells (vs.set (o0 + i) x).toArray t fr)) b (.cells (splice vs (o0 + i) (x :: xs)).toArray t fr) = setB w b (.cells (splice vs (o0 + i) (x :: xs)).toArray t fr) := by
      simp [setB]
    rw [h3] at h2
    simp only [storeCells, add_none]
    show Sem.run P (Sem.bind (store ⟨b, o0 + i, none⟩ x) fun _ => storeCells ⟨b, o0, none⟩ xs (i + 1)) w = _
    have e : ∀ (m : Sem Unit) (f : Unit → Sem Unit), (Sem.bind m f).run P w = (m.run P w).andThen fun a w' => (f a).run P w' := fun m f => Sem.run_bind ..
    rw [e, h1]
    exact h2

end Sx

/- The deep state of the engine: values with named places, resources, and what it means that a world fits them. -/
import Derived.WalkKit
set_option linter.unusedVariables false
set_option linter.unusedSimpArgs false
namespace Sx
open Go

/-- A piece of memory: some blocks. -/
abbrev Hp := Nat → Option Obj

/-- The frame: the memory that nobody writes while a function runs, and what was never to be written again when it began. -/
structure Fr where
  hp : Hp
  fz : Hp

instance : CoeFun Fr (fun _ => Hp) := ⟨Fr.hp⟩

def Sub (h : Hp) (w : World) : Prop := ∀ b o, h b = some o → w.heap[b]? = some o

def single (b : Nat) (o : Obj) : Hp := fun x => if x = b then some o else none

/-- What the reader finds at an address in a piece. -/
def hcell (h : Hp) (a : Addr) : Option Value :=
  match h a.block with
  | some (.cells c _ _) => if a.spot.isSome then none else c[a.off]?
  | _ => none

/-- A name's place: where it begins (none: nowhere), and how many cells lie there. -/
structure Bd where
  addr : Option Addr
  cap : Nat

/-- The values of one cell, of which places may be named. -/
inductive CV where
  | any
  | val (v : Value)
  | ptr (i sz idx fld : Nat)
  | slc (i sz lo len : Nat) (mc : Option Nat)
  | mp (i : Nat)
  | ch (i : Nat)
  | num (i : Nat)
  | fn (f : Fn) (first caps : List CV)
  | rsl (sz n : Nat) (mc : Option Nat) (f : Nat → List CV)
  | rp (l : List CV)
  | nq (n : Nat)

inductive SV where
  | any
  | cv (c : CV)
  | agg (l : List CV)
  | tup (l : List SV)

def Plain : Value → Prop
  | .agg _ | .tuple _ => False
  | _ => True

/-- A naming, and the memory that is never written again. -/
structure Env where
  nm : Nat → Option Bd
  mem : Hp

instance : CoeFun Env (fun _ => Nat → Option Bd) := ⟨Env.nm⟩

/-- No names. -/
def Env.bare (β : Env) : Env := ⟨fun _ => none, β.mem⟩

mutual
def CV.Den (β : Env) : CV → Value → Prop
  | .any, x => Plain x
  | .val v, x => x = v ∧ Plain v
  | .ptr i sz idx fld, x => ∃ a cap, β i = some ⟨some a, cap⟩ ∧ x = .pointer (some (a.add (idx * sz + fld)))
  | .slc i sz lo len mc, x => ∃ ad cap, β i = some ⟨ad, cap⟩ ∧ (lo + len) * sz ≤ cap ∧ 0 < sz ∧ (∀ m, mc = some m → len ≤ m ∧ (lo + m) * sz ≤ cap) ∧
      ∃ ad', x = .slice ad' len (mc.getD (cap / sz - lo)) ∧ (0 < mc.getD (cap / sz - lo) → ∃ a, ad = some a ∧ ad' = some (a.add (lo * sz)))
  | .mp i, x => ∃ b cap, β i = some ⟨some ⟨b, 0, none⟩, cap⟩ ∧ x = .map (some b)
  | .ch i, x => ∃ b cap, β i = some ⟨some ⟨b, 0, none⟩, cap⟩ ∧ x = .chan (some b)
  | .num i, x => ∃ ad cap, β i = some ⟨ad, cap⟩ ∧ x = .int .i64 cap
  | .fn f first caps, x => ∃ fs cs, x = .func f (List.toArray fs) (List.toArray cs) ∧ CV.DenL β first fs ∧ CV.DenL β caps cs
  | .rsl sz n mc f, x => 0 < sz ∧ ∃ ad cap, x = .slice ad n cap ∧ n ≤ cap ∧ (∀ m, mc = some m → cap = m) ∧ (n = 0 ∨ ∃ a, ad = some a ∧ a.spot = none ∧
      ∀ i, i < n → ∃ vs, vs.length = sz ∧ CV.DenL β.bare (f i) vs ∧ ∀ j, j < sz → hcell β.mem (a.add (i * sz + j)) = vs[j]?)
  | .rp l, x => ∃ a vs, x = .pointer (some a) ∧ a.spot = none ∧ CV.DenL β.bare l vs ∧ ∀ j, j < l.length → hcell β.mem (a.add j) = vs[j]?
  | .nq n, x => ∃ b, x = .bool b ∧ (b = true → n = 0)
def CV.DenL (β : Env) : List CV → List Value → Prop
  | [], [] => True
  | c :: l, v :: vs => CV.Den β c v ∧ CV.DenL β l vs
  | _, _ => False
end

mutual
def SV.Den (β : Env) : SV → Value → Prop
  | .any, _ => True
  | .cv c, x => CV.Den β c x
  | .agg l, x => ∃ vs, x = .agg (List.toArray vs) ∧ CV.DenL β l vs
  | .tup l, x => ∃ vs, x = .tuple (List.toArray vs) ∧ SV.DenL β l vs
def SV.DenL (β : Env) : List SV → List Value → Prop
  | [], [] => True
  | c :: l, v :: vs => SV.Den β c v ∧ SV.DenL β l vs
  | _, _ => False
end

/-- A table of places by places, in the order of its making. -/
abbrev RMap := List ((Int × Int) × (Int × Int))

def ridV (p : Int × Int) : Value := .agg #[.int .i64 p.1, .int .i64 p.2]

structure MapIs (es : Array MapEntry) (clock : Nat) (l : RMap) : Prop where
  reads : es.toList.map (fun e => (e.key, e.val)) = l.map (fun x => (ridV x.1, ridV x.2))
  below : ∀ e ∈ es.toList, e.born < clock
  once : es.toList.Pairwise (fun a b => a.born ≠ b.born)

inductive Res where
  | gone
  | cells (l : List CV)
  | recs (sz n : Nat) (f : Nat → List CV)
  | ro (sz n : Nat) (f : Nat → List CV)
  | frz (sz n : Nat) (f : Nat → List CV)
  | rmap (l : RMap)
  | rmapP (l : RMap) (k : Int × Int) (n : Nat)
  | chan (cap : Nat) (q : List Int)

/-- None of the first n cells is frozen. -/
def Unfr (fr : Nat × Nat) (n : Nat) : Prop := fr.1 = fr.2 ∨ n ≤ fr.1
theorem Unfr.no {fr : Nat × Nat} {n : Nat} (h : Unfr fr n) {o : Nat} (ho : o < n) : ¬ (fr.1 ≤ o ∧ o < fr.2) := by
  rcases h with h | h <;> omega

def Res.Sat (hf : Fr) (β : Env) (bd : Option Bd) : Res → Hp → Prop
  | .gone, _ => True
  | .cells l, h => ∃ b vs t fr, bd = some ⟨some ⟨b, 0, none⟩, l.length⟩ ∧ CV.DenL β l vs ∧ h = single b (.cells (List.toArray vs) t fr) ∧ Unfr fr l.length
  | .recs sz n f, h => 0 < sz ∧ ∃ ad cap, bd = some ⟨ad, cap⟩ ∧ n * sz ≤ cap ∧ (cap = 0 ∨ ∃ b vs t fr, ad = some ⟨b, 0, none⟩ ∧ vs.length = cap ∧
      h = single b (.cells (List.toArray vs) t fr) ∧ Unfr fr cap ∧ ∀ i, i < n → CV.DenL β (f i) ((vs.drop (i * sz)).take sz))
  | .ro sz n f, _ => 0 < sz ∧ ∃ ad cap, bd = some ⟨ad, cap⟩ ∧ n * sz ≤ cap ∧ (n = 0 ∨ ∃ a, ad = some a ∧ a.spot = none ∧
      ∀ i, i < n → ∃ vs, vs.length = sz ∧ CV.DenL β (f i) vs ∧ ∀ j, j < sz → hcell hf.hp (a.add (i * sz + j)) = vs[j]?)
  | .frz sz n f, _ => 0 < sz ∧ ∃ ad cap, bd = some ⟨ad, cap⟩ ∧ n * sz ≤ cap ∧ (n = 0 ∨ ∃ a, ad = some a ∧ a.spot = none ∧
      ∀ i, i < n → ∃ vs, vs.length = sz ∧ CV.DenL β.bare (f i) vs ∧ ∀ j, j < sz → hcell β.mem (a.add (i * sz + j)) = vs[j]?)
  | .rmap l, h => ∃ b es clock, bd = some ⟨some ⟨b, 0, none⟩, 0⟩ ∧ h = single b (.map es clock) ∧ MapIs es clock l
  | .rmapP l k n, h => ∃ b es clock, bd = some ⟨some ⟨b, 0, none⟩, 0⟩ ∧ h = single b (.map es clock) ∧ MapIs es clock (l ++ [(k, (0, 0))]) ∧
      ∃ ad e, β n = some ⟨ad, e⟩ ∧ ∃ ent, es.toList[l.length]? = some ent ∧ ent.born = e
  | .chan cap q, h => ∃ b s r, bd = some ⟨some ⟨b, 0, none⟩, 0⟩ ∧ h = single b (.chan cap (List.toArray (q.map fun x => .int .i64 x)) false s r false)

/-- The memory that is never written again: it holds what it held when the function began, what was added to it is not of the frame, and it is no name's. -/
structure Fzn (hf : Fr) (w : World) (β : Env) (h : Nat → Hp) : Prop where
  old : ∀ b o, hf.fz b = some o → β.mem b = some o
  new : ∀ b, β.mem b ≠ none → hf.fz b ≠ none ∨ hf.hp b = none
  sub : Sub β.mem w
  own : ∀ i b, h i b ≠ none → β.mem b = none

structure Rel (hf : Fr) (w : World) (β : Env) (res : Nat → Res) (h : Nat → Hp) : Prop where
  frame : Sub hf.hp w
  sub : ∀ i, Sub (h i) w
  disj : ∀ i j b, i ≠ j → h i b ≠ none → h j b = none
  apart : ∀ i b, h i b ≠ none → hf b = none
  sat : ∀ i, (res i).Sat hf β (β i) (h i)
  fzn : Fzn hf w β h

/-- The streams and the tape are as they were; no block has gone. -/
structure Ext (w w' : World) : Prop where
  os : w'.os = w.os
  tape : w'.tape = w.tape
  output : w'.output = w.output
  size : w.heap.size ≤ w'.heap.size

theorem Ext.refl (w : World) : Ext w w := ⟨rfl, rfl, rfl, Nat.le_refl _⟩
theorem Ext.trans {a b c : World} (h : Ext a b) (k : Ext b c) : Ext a c :=
  ⟨k.os.trans h.os, k.tape.trans h.tape, k.output.trans h.output, Nat.le_trans h.size k.size⟩

structure Env.le (β β' : Env) : Prop where
  nm : ∀ i b, β i = some b → β' i = some b
  mem : ∀ b o, β.mem b = some o → β'.mem b = some o
theorem Env.le_refl (β : Env) : Env.le β β := ⟨fun _ _ h => h, fun _ _ h => h⟩
theorem Env.le_trans {a b c : Env} (h : Env.le a b) (k : Env.le b c) : Env.le a c := ⟨fun i x hx => k.nm i x (h.nm i x hx), fun i x hx => k.mem i x (h.mem i x hx)⟩
theorem Env.le_bare {a b : Env} (h : ∀ x o, a.mem x = some o → b.mem x = some o) : Env.le a.bare b.bare := ⟨fun _ _ h => (by cases h), h⟩

theorem Env.bare_le (β : Env) : Env.le β.bare β := ⟨fun _ _ h => (by cases h), fun _ _ h => h⟩

theorem hcell_sub {h h' : Hp} (hh : ∀ b o, h b = some o → h' b = some o) {a : Addr} {v : Value} (hc : hcell h a = some v) : hcell h' a = some v := by
  unfold hcell at hc ⊢
  cases hq : h a.block with
  | none => rw [hq] at hc; cases hc
  | some o => rw [hq] at hc; rw [hh _ _ hq]; exact hc

theorem CV.denL_length {β : Env} : ∀ (l : List CV) (xs : List Value), CV.DenL β l xs → xs.length = l.length
  | [], [], _ => rfl
  | _ :: l, _ :: xs, ⟨_, h2⟩ => by simp [CV.denL_length l xs h2]
  | [], _ :: _, hx => hx.elim
  | _ :: _, [], hx => hx.elim

/-! ### values under a wider naming -/
mutual
theorem CV.den_le {β β' : Env} (h : Env.le β β') : ∀ (c : CV) (x : Value), CV.Den β c x → CV.Den β' c x
  | .any, _, hx => hx
  | .val _, _, hx => hx
  | .ptr .., _, hx => by obtain ⟨a, cap, hb, hx⟩ := hx; exact ⟨a, cap, h.nm _ _ hb, hx⟩
  | .slc .., _, hx => by obtain ⟨ad, cap, hb, hx⟩ := hx; exact ⟨ad, cap, h.nm _ _ hb, hx⟩
  | .mp _, _, hx => by obtain ⟨b, cap, hb, hx⟩ := hx; exact ⟨b, cap, h.nm _ _ hb, hx⟩
  | .ch _, _, hx => by obtain ⟨b, cap, hb, hx⟩ := hx; exact ⟨b, cap, h.nm _ _ hb, hx⟩
  | .num _, _, hx => by obtain ⟨b, cap, hb, hx⟩ := hx; exact ⟨b, cap, h.nm _ _ hb, hx⟩
  | .fn _ first caps, _, hx => by
    obtain ⟨fs, cs, hx, h1, h2⟩ := hx
    exact ⟨fs, cs, hx, CV.denL_le h first fs h1, CV.denL_le h caps cs h2⟩
  | .rsl sz n mc f, _, hx => by
    obtain ⟨h0, ad, cap, h1, h2, h3, h4⟩ := hx
    refine ⟨h0, ad, cap, h1, h2, h3, ?_⟩
    rcases h4 with h4 | ⟨a, e1, e2, e3⟩
    · exact .inl h4
    · refine .inr ⟨a, e1, e2, fun i hi => ?_⟩
      obtain ⟨vs, k1, k2, k3⟩ := e3 i hi
      refine ⟨vs, k1, CV.denL_le (Env.le_bare h.mem) (f i) vs k2, fun j hj => ?_⟩
      have := k3 j hj
      rw [List.getElem?_eq_getElem (by omega)] at this ⊢
      exact hcell_sub h.mem this
  | .rp l, _, hx => by
    obtain ⟨a, vs, h1, h2, h3, h4⟩ := hx
    refine ⟨a, vs, h1, h2, CV.denL_le (Env.le_bare h.mem) l vs h3, fun j hj => ?_⟩
    have hl := CV.denL_length _ _ h3
    have := h4 j hj
    rw [List.getElem?_eq_getElem (by omega)] at this ⊢
    exact hcell_sub h.mem this
  | .nq _, _, hx => hx
theorem CV.denL_le {β β' : Env} (h : Env.le β β') : ∀ (l : List CV) (xs : List Value), CV.DenL β l xs → CV.DenL β' l xs
  | [], [], _ => trivial
  | c :: l, x :: xs, ⟨h1, h2⟩ => ⟨CV.den_le h c x h1, CV.denL_le h l xs h2⟩
  | [], _ :: _, hx => hx.elim
  | _ :: _, [], hx => hx.elim
end

mutual
theorem SV.den_le {β β' : Env} (h : Env.le β β') : ∀ (c : SV) (x : Value), SV.Den β c x → SV.Den β' c x
  | .any, _, hx => hx
  | .cv c, _, hx => CV.den_le h c _ hx
  | .agg l, _, ⟨vs, hx, h1⟩ => ⟨vs, hx, CV.denL_le h l vs h1⟩
  | .tup l, _, ⟨vs, hx, h1⟩ => ⟨vs, hx, SV.denL_le h l vs h1⟩
theorem SV.denL_le {β β' : Env} (h : Env.le β β') : ∀ (l : List SV) (xs : List Value), SV.DenL β l xs → SV.DenL β' l xs
  | [], [], _ => trivial
  | c :: l, x :: xs, ⟨h1, h2⟩ => ⟨SV.den_le h c x h1, SV.denL_le h l xs h2⟩
  | [], _ :: _, hx => hx.elim
  | _ :: _, [], hx => hx.elim
end

theorem CV.den_plain {β : Env} : ∀ (c : CV) (x : Value), CV.Den β c x → Plain x
  | .any, _, hx => hx
  | .val _, _, ⟨rfl, h⟩ => h
  | .ptr .., _, ⟨_, _, _, hx⟩ => by rw [hx]; trivial
  | .slc .., _, ⟨_, _, _, _, _, _, _, hx, _⟩ => by rw [hx]; trivial
  | .mp _, _, ⟨_, _, _, hx⟩ => by rw [hx]; trivial
  | .ch _, _, ⟨_, _, _, hx⟩ => by rw [hx]; trivial
  | .num _, _, ⟨_, _, _, hx⟩ => by rw [hx]; trivial
  | .fn .., _, ⟨_, _, hx, _⟩ => by rw [hx]; trivial
  | .rsl .., _, hx => by obtain ⟨_, ad, cap, hx, _⟩ := hx; rw [hx]; trivial
  | .rp .., _, hx => by obtain ⟨a, vs, hx, _⟩ := hx; rw [hx]; trivial
  | .nq _, _, hx => by obtain ⟨b, hx, _⟩ := hx; rw [hx]; trivial

theorem SV.denL_length {β : Env} : ∀ (l : List SV) (xs : List Value), SV.DenL β l xs → xs.length = l.length
  | [], [], _ => rfl
  | _ :: l, _ :: xs, ⟨_, h2⟩ => by simp [SV.denL_length l xs h2]
  | [], _ :: _, hx => hx.elim
  | _ :: _, [], hx => hx.elim

theorem CV.denL_plain {β : Env} : ∀ (l : List CV) (xs : List Value), CV.DenL β l xs → ∀ x ∈ xs, Plain x
  | [], [], _, _, h => by cases h
  | c :: l, y :: ys, ⟨h1, h2⟩, x, h => by
    rcases List.mem_cons.1 h with rfl | h
    · exact CV.den_plain c _ h1
    · exact CV.denL_plain l ys h2 x h
  | [], _ :: _, hx, _, _ => hx.elim
  | _ :: _, [], hx, _, _ => hx.elim

theorem CV.denL_get {β : Env} : ∀ (l : List CV) (xs : List Value), CV.DenL β l xs → ∀ (i : Nat) (c : CV), l[i]? = some c → ∃ x, xs[i]? = some x ∧ CV.Den β c x
  | [], [], _, _, _, h => by simp at h
  | c :: l, y :: ys, ⟨h1, h2⟩, i, d, h => by
    cases i with
    | zero => simp at h; subst h; exact ⟨y, rfl, h1⟩
    | succ i => simpa using CV.denL_get l ys h2 i d (by simpa using h)
  | [], _ :: _, hx, _, _, _ => hx.elim
  | _ :: _, [], hx, _, _, _ => hx.elim

theorem SV.denL_get {β : Env} : ∀ (l : List SV) (xs : List Value), SV.DenL β l xs → ∀ (i : Nat) (c : SV), l[i]? = some c → ∃ x, xs[i]? = some x ∧ SV.Den β c x
  | [], [], _, _, _, h => by simp at h
  | c :: l, y :: ys, ⟨h1, h2⟩, i, d, h => by
    cases i with
    | zero => simp at h; subst h; exact ⟨y, rfl, h1⟩
    | succ i => simpa using SV.denL_get l ys h2 i d (by simpa using h)
  | [], _ :: _, hx, _, _, _ => hx.elim
  | _ :: _, [], hx, _, _, _ => hx.elim

theorem CV.denL_append {β : Env} : ∀ (l : List CV) (xs : List Value) (m : List CV) (ys : List Value), CV.DenL β l xs → CV.DenL β m ys → CV.DenL β (l ++ m) (xs ++ ys)
  | [], [], _, _, _, h => h
  | _ :: l, _ :: xs, m, ys, ⟨h1, h2⟩, h => ⟨h1, CV.denL_append l xs m ys h2 h⟩
  | [], _ :: _, _, _, hx, _ => hx.elim
  | _ :: _, [], _, _, hx, _ => hx.elim

theorem CV.denL_take {β : Env} : ∀ (n : Nat) (l : List CV) (xs : List Value), CV.DenL β l xs → CV.DenL β (l.take n) (xs.take n)
  | 0, _, _, _ => by simp [CV.DenL]
  | _ + 1, [], [], _ => by simp [CV.DenL]
  | n + 1, _ :: l, _ :: xs, ⟨h1, h2⟩ => ⟨h1, CV.denL_take n l xs h2⟩
  | _ + 1, [], _ :: _, hx => hx.elim
  | _ + 1, _ :: _, [], hx => hx.elim

theorem CV.denL_drop {β : Env} : ∀ (n : Nat) (l : List CV) (xs : List Value), CV.DenL β l xs → CV.DenL β (l.drop n) (xs.drop n)
  | 0, _, _, h => by simpa using h
  | _ + 1, [], [], _ => by simp [CV.DenL]
  | n + 1, _ :: l, _ :: xs, ⟨_, h2⟩ => by simpa using CV.denL_drop n l xs h2
  | _ + 1, [], _ :: _, hx => hx.elim
  | _ + 1, _ :: _, [], hx => hx.elim

theorem Res.sat_le {hf : Fr} {β β' : Env} (h : Env.le β β') {bd : Option Bd} {r : Res} {p : Hp} (hs : r.Sat hf β bd p) : r.Sat hf β' bd p := by
  cases r with
  | gone => trivial
  | cells l => obtain ⟨b, vs, t, fr, h1, h2, h3, h4⟩ := hs; exact ⟨b, vs, t, fr, h1, CV.denL_le h _ _ h2, h3, h4⟩
  | recs sz n f =>
    obtain ⟨h0, ad, cap, h1, h2, h3⟩ := hs
    refine ⟨h0, ad, cap, h1, h2, ?_⟩
    rcases h3 with h3 | ⟨b, vs, t, fr, e1, e2, e3, e4, e5⟩
    · exact .inl h3
    · exact .inr ⟨b, vs, t, fr, e1, e2, e3, e4, fun i hi => CV.denL_le h _ _ (e5 i hi)⟩
  | ro sz n f =>
    obtain ⟨h0, ad, cap, h1, h2, h3⟩ := hs
    refine ⟨h0, ad, cap, h1, h2, ?_⟩
    rcases h3 with h3 | ⟨a, e1, e2, e3⟩
    · exact .inl h3
    · refine .inr ⟨a, e1, e2, fun i hi => ?_⟩
      obtain ⟨vs, k1, k2, k3⟩ := e3 i hi
      exact ⟨vs, k1, CV.denL_le h _ _ k2, k3⟩
  | frz sz n f =>
    obtain ⟨h0, ad, cap, h1, h2, h3⟩ := hs
    refine ⟨h0, ad, cap, h1, h2, ?_⟩
    rcases h3 with h3 | ⟨a, e1, e2, e3⟩
    · exact .inl h3
    · refine .inr ⟨a, e1, e2, fun i hi => ?_⟩
      obtain ⟨vs, k1, k2, k3⟩ := e3 i hi
      refine ⟨vs, k1, CV.denL_le (Env.le_bare h.mem) _ _ k2, fun j hj => ?_⟩
      have := k3 j hj
      rw [List.getElem?_eq_getElem (by omega)] at this ⊢
      exact hcell_sub h.mem this
  | rmap l => exact hs
  | rmapP l k n =>
    obtain ⟨b, es, clock, h1, h2, h3, ad, e, h4, h5⟩ := hs
    exact ⟨b, es, clock, h1, h2, h3, ad, e, h.nm _ _ h4, h5⟩
  | chan c q => exact hs

end Sx

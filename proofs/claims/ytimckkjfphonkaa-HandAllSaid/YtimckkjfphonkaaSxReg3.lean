/- Regions: the formula over one order gives the model's own, in whatever order it draws. -/
import Derived.Test.YtimckkjfphonkaaSxReg2
set_option linter.unusedVariables false
set_option linter.unusedSimpArgs false
namespace Sx
open Go

structure FitsF (β : Env) (slot : Nat → SV) (a : Act) (n : Nat) : Prop where
  size : a.tmps.size = n
  den : ∀ i, SV.Den β (slot i) (a.tmps.getD i undef)

theorem FitsF.ev {β : Env} {slot : Nat → SV} {a : Act} {n : Nat} (h : FitsF β slot a n) (x : Operand) : SV.Den β (evF slot x) (a.eval x) := by
  cases x with
  | tmp t => exact h.den t
  | const v => exact cval_den β v
  | global g => trivial
  | func f => exact ⟨[], [], rfl, trivial, trivial⟩

theorem FitsF.put {β β' : Env} {slot : Nat → SV} {a : Act} {n : Nat} (h : FitsF β slot a n) (hle : Env.le β β') {dst : Option Nat} (hd : ∀ d, dst = some d → d < n) {v : SV} {x : Value} (hv : SV.Den β' v x) :
    FitsF β' (putF slot (dst.map (·, v))) (a.put dst x) n := by
  cases dst with
  | none => exact ⟨h.size, fun i => SV.den_le hle _ _ (h.den i)⟩
  | some d =>
    refine ⟨by simp [Act.put, h.size], fun i => ?_⟩
    simp only [Option.map_some, putF, Act.put]
    by_cases hi : i = d
    · subst hi
      rw [up_same]
      have : i < a.tmps.size := by rw [h.size]; exact hd i rfl
      simp [this]
      exact hv
    · rw [up_ne _ _ hi]
      have := h.den i
      rw [show (a.tmps.setIfInBounds d x).getD i undef = a.tmps.getD i undef by
        simp [Array.getElem?_setIfInBounds_ne (Ne.symm hi)]]
      exact SV.den_le hle _ _ this

/-- An operation of the model's region, and the engine's. -/
structure Match (P : Program) (ops : Array Oper) (n : Nat) (o : SO) (op : Oper) : Prop where
  get : ops[o.idx]? = some op
  comp : compileOp P op.op = some o.op
  call : ∀ f args, o.op = .call f args → ∃ c, op.op = .call c ∧ c.callee = .value f ∧ c.args.toList = args
  dst : op.dst = o.dst
  dlt : ∀ d, o.dst = some d → d < n
  guard : (op.guard = none ∧ o.guard = none) ∨ ∃ g want slot og, op.guard = some (g, want) ∧ ops[g]? = some og ∧ og.dst = some slot ∧ o.guard = some (slot, want)

theorem wanted_of {P : Program} {ops : Array Oper} {n : Nat} {o : SO} {op : Oper} (hm : Match P ops n o op) {β : Env} {slot : Nat → SV} {a : Act} (hf : FitsF β slot a n) {b : Bool} (hg : guardOk o slot b) :
    Region.wanted op (yielded ops a.tmps) = b := by
  unfold guardOk at hg
  unfold Region.wanted
  rcases hm.guard with ⟨h1, h2⟩ | ⟨g, want, s, og, h1, h2, h3, h4⟩
  · rw [h2] at hg; rw [h1, hg]
  · rw [h4] at hg
    obtain ⟨c, hc, hb⟩ := hg
    have hd := hf.den s
    rw [hc] at hd
    have hy : yielded ops a.tmps g = some c := by
      unfold yielded
      have : (ops[g]?).bind (·.dst) = some s := by rw [h2]; exact h3
      simp only [this]
      have hv : a.tmps.getD s undef = .bool c := hd.1
      have hs : a.tmps[s]? = some (.bool c) := by
        by_cases hlt : s < a.tmps.size
        · rw [Array.getD_eq_getD_getElem?, Array.getElem?_eq_getElem hlt] at hv
          rw [Array.getElem?_eq_getElem hlt]
          exact congrArg some hv
        · rw [Array.getD_eq_getD_getElem?, Array.getElem?_eq_none (Nat.le_of_not_lt hlt)] at hv
          simp [undef] at hv
      simp only [Option.bind_some, hs]
    rw [h1]
    simp only [hy, hb]
    cases c <;> cases want <;> rfl

/-- The names that are still to come. -/
def Fresh (nm nc : Nat) (β : Env) (L : List SO) : Prop := ∀ o ∈ L, β (nm + o.idx) = none ∧ ∀ j, j < 8 → β (nc + 8 * o.idx + j) = none

structure After (P : Program) (hf : Fr) (nm nc : Nat) (dr : Bool) (N n : Nat) (B : Env) (w0 : World) (d0 : List Deferred) (L : List SO) (tr : List En) (K : FSt → Prop) (a : Act) (w : World) : Prop where
  ex : ∃ φ β h, Ff P hf nm nc dr L φ tr K ∧ FitsF β φ.slot a n ∧ Rel hf w β φ.res h ∧ Fresh nm nc β L ∧ (∀ i, nc + 8 * N ≤ i → β i = none) ∧ (∀ i, i < nm → β i = B i)
  ext : Ext w0 w
  defers : a.defers = d0

theorem exec_head {P : Program} {hf : Fr} {nm nc N n : Nat} {dr : Bool} {ops : Array Oper} {k : SO} {op : Oper} {L : List SO} {φ : FSt} {tr : List En} {K : FSt → Prop} (hm : Match P ops n k op) (hN : nm + N ≤ nc)
    (hkN : k.idx < N) (hLN : ∀ o ∈ L, o.idx < N ∧ o.idx ≠ k.idx) {w0 w : World} {β : Env} {h : Nat → Hp} {a : Act} {Q : Exit → Act → World → Prop} (hh : HeadF P hf nm nc dr k L φ tr K) (hfit : FitsF β φ.slot a n)
    (hrel : Rel hf w β φ.res h) (hfr : Fresh nm nc β (k :: L)) (htop : ∀ i, nc + 8 * N ≤ i → β i = none) {B : Env} (hB : ∀ i, i < nm → β i = B i) (hext : Ext w0 w) :
    wpOp P ops Q k.idx (After P hf nm nc dr N n B w0 a.defers L tr K) a w := by
  have hk0 := hfr k (by simp)
  have keepL : ∀ {β' : Env}, (∀ i, i ≠ nm + k.idx → ¬ (nc + 8 * k.idx ≤ i ∧ i < nc + 8 * k.idx + 8) → β' i = β i) → Fresh nm nc β' L := by
    intro β' hb o ho
    obtain ⟨h1, h2⟩ := hLN o ho
    have := hfr o (by simp [ho])
    refine ⟨by rw [hb _ (by omega) (by omega)]; exact this.1, fun j hj => by rw [hb _ (by omega) (by omega)]; exact this.2 j hj⟩
  have keepT : ∀ {β' : Env}, (∀ i, i ≠ nm + k.idx → ¬ (nc + 8 * k.idx ≤ i ∧ i < nc + 8 * k.idx + 8) → β' i = β i) → ∀ i, nc + 8 * N ≤ i → β' i = none := by
    intro β' hb i hi
    rw [hb i (by omega) (by omega)]; exact htop i hi
  have keepB : ∀ {β' : Env}, (∀ i, i ≠ nm + k.idx → ¬ (nc + 8 * k.idx ≤ i ∧ i < nc + 8 * k.idx + 8) → β' i = β i) → ∀ i, i < nm → β' i = B i := by
    intro β' hb i hi
    rw [hb i (by omega) (by omega)]; exact hB i hi
  unfold wpOp
  simp only [hm.get]
  rcases hh with ⟨δ, e, hdet, _, hF⟩ | ⟨hg, f, args, fp, hop, _, hcall⟩
  · rcases hdet with ⟨hg, rfl, rfl⟩ | ⟨hg, r, hop, hobl, rfl, rfl⟩
    · rw [wanted_of hm hfit hg]
      simp only [Bool.false_eq_true, if_false]
      refine ⟨⟨_, β, h, hF, ?_, hrel, keepL (fun _ _ _ => rfl), htop, hB⟩, hext, by rw [hm.dst]; cases k.dst <;> rfl⟩
      rw [hm.dst]
      exact hfit.put (Env.le_refl β) hm.dlt trivial
    · rw [wanted_of hm hfit hg]
      simp only [if_true]
      refine .inl ?_
      obtain ⟨v, w', β', h', hd⟩ := opSound hm.comp (evF φ.slot) a.eval hf w β φ.res h (nm + k.idx) _ r (fun x _ => hfit.ev x)
        (fun i hi => (lk_map φ.res _ i hi).symm) hrel hk0.1 hop hobl
      have hA : After P hf nm nc dr N n B w0 a.defers L tr K (a.put op.dst v) w' := by
        refine ⟨⟨_, β', h', hF, ?_, hd.rel, keepL (fun i h1 _ => hd.keep i h1), keepT (fun i h1 _ => hd.keep i h1), keepB (fun i h1 _ => hd.keep i h1)⟩, hext.trans hd.ext, by rw [hm.dst]; cases k.dst <;> rfl⟩
        rw [hm.dst]
        exact hfit.put hd.le hm.dlt hd.den
      unfold Oper.wp
      rcases hd.run with hrun | ⟨hrun, rfl⟩
      · rw [hrun]; exact hA
      · rw [hrun]; exact hA
  · rw [wanted_of hm hfit hg]
    simp only [if_true]
    refine .inl ?_
    obtain ⟨c, hc, hcv, hca⟩ := hm.call f args hop
    have hfv := hfit.ev f
    have hvs : SV.DenL β (args.map (evF φ.slot)) (args.map a.eval) := by
      clear hcall hop hca
      induction args with
      | nil => trivial
      | cons x xs ih => exact ⟨hfit.ev x, ih⟩
    obtain ⟨id, fs, cs, fn, e1, e2, e3, e4, e5⟩ := hcall φ.res w β h (a.eval f) (args.map a.eval) (fun _ _ => rfl) hrel hk0.2 hfv hvs
    have hrun : (execOp a.eval op).run P w = .ok (.enter id (List.toArray (fs ++ args.map a.eval ++ cs))) w := by
      have hargs : c.args.map a.eval = List.toArray (args.map a.eval) := by rw [← hca]; apply Array.ext'; simp
      simp only [execOp, hc, resolve, hcv, e1, Deferred.ofValue, Sem.run_bind, Sem.run_pure, Result.andThen_ok, invoke, callFunc, run_program, e2, e3, Bool.false_eq_true, if_false, e4, hargs]
      simp
    unfold Oper.wp
    rw [hrun]
    refine e5.mono ?_
    rintro ee w' ⟨v, rv, upd, β', h', rfl, hF, hden, hle, hkeep, hrel', hupd, hext'⟩
    have hk : ∀ i, i ≠ nm + k.idx → ¬ (nc + 8 * k.idx ≤ i ∧ i < nc + 8 * k.idx + 8) → β' i = β i := fun i _ h2 => hkeep i (by omega)
    refine ⟨⟨_, β', h', hF, ?_, hrel', keepL hk, keepT hk, keepB hk⟩, hext.trans hext', by rw [hm.dst]; cases k.dst <;> rfl⟩
    rw [hm.dst]
    exact hfit.put hle hm.dlt hden

/-- Without repeats. -/
def dd : List Nat → List Nat
  | [] => []
  | x :: l => if (dd l).contains x then dd l else x :: dd l

theorem mem_dd {x : Nat} : ∀ {l : List Nat}, x ∈ dd l → x ∈ l
  | y :: l, h => by
    simp only [dd] at h
    split at h
    · exact List.mem_cons_of_mem _ (mem_dd h)
    · rcases List.mem_cons.1 h with rfl | h
      · exact List.mem_cons_self
      · exact List.mem_cons_of_mem _ (mem_dd h)

/-- Each one's forerunners, and theirs. -/
def ancs : List (List Nat) → List (List Nat) → List (List Nat)
  | [], acc => acc
  | ds :: r, acc => ancs r (acc ++ [dd (ds ++ ds.flatMap fun p => acc.getD p [])])

theorem ancs_prefix : ∀ (l acc : List (List Nat)) (k : Nat), k < acc.length → (ancs l acc).getD k [] = acc.getD k []
  | [], _, _, _ => rfl
  | ds :: r, acc, k, h => by
    rw [ancs, ancs_prefix r _ k (by simp; omega)]
    rw [List.getD_eq_getElem?_getD, List.getD_eq_getElem?_getD, List.getElem?_append_left h]

theorem ancs_spec : ∀ (l acc : List (List Nat)) (k : Nat), k < l.length → ∀ x ∈ (ancs l acc).getD (acc.length + k) [],
    x ∈ l.getD k [] ∨ ∃ p ∈ l.getD k [], p < acc.length + k ∧ x ∈ (ancs l acc).getD p []
  | [], _, _, h => by cases h
  | ds :: r, acc, k, h => by
    intro x hx
    cases k with
    | zero =>
      rw [ancs, Nat.add_zero, ancs_prefix r _ acc.length (by simp)] at hx
      rw [List.getD_eq_getElem?_getD, List.getElem?_append_right (Nat.le_refl _)] at hx
      simp only [Nat.sub_self, List.getElem?_cons_zero, Option.getD_some] at hx
      have hx := mem_dd hx
      rcases List.mem_append.1 hx with h1 | h1
      · exact .inl (by simpa using h1)
      · obtain ⟨p, hp1, hp2⟩ := List.mem_flatMap.1 h1
        by_cases hp : p < acc.length
        · refine .inr ⟨p, by simpa using hp1, by omega, ?_⟩
          rw [ancs, ancs_prefix r _ p (by simp; omega)]
          rw [List.getD_eq_getElem?_getD, List.getElem?_append_left hp, ← List.getD_eq_getElem?_getD]
          exact hp2
        · rw [List.getD_eq_getElem?_getD, List.getElem?_eq_none (by omega)] at hp2
          cases hp2
    | succ k =>
      have hlen : (acc ++ [dd (ds ++ ds.flatMap fun p => acc.getD p [])]).length = acc.length + 1 := by simp
      have := ancs_spec r (acc ++ [dd (ds ++ ds.flatMap fun p => acc.getD p [])]) k (by simpa using h) x
      rw [hlen, show acc.length + 1 + k = acc.length + (k + 1) by omega] at this
      rcases this hx with h1 | ⟨p, h1, h2, h3⟩
      · exact .inl (by simpa using h1)
      · exact .inr ⟨p, by simpa using h1, h2, h3⟩

end Sx

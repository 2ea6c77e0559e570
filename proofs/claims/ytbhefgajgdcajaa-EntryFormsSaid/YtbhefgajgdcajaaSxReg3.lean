/- Regions: the formula over one order gives the model's own, in whatever order it draws. -/
import Derived.Test.YtbhefgajgdcajaaSxReg2
set_option linter.unusedVariables false
set_option linter.unusedSimpArgs false
namespace Sx
open Go

structure FitsF (β : Env) (slot : Nat → SV) (a : Act) (n : Nat) : Prop where
  size : a.tmps.size = n
  den : ∀ i, SV.Den β (slot i) (a.tmps.getD i undef)

theorem FitsF.ev {β : Env} {slot : Nat → SV} {a : Act} {n : Nat} (h : FitsF β slot a n) (x : Operand) : SV.Den β (evF slot x) (a.eval x) := by
  cases x with
  | tmp t => exact h.den t
  | const v => exact cval_den β v
  | global g => trivial
  | func f => exact ⟨[], [], rfl, trivial, trivial⟩

theorem FitsF.put {β β' : Env} {slot : Nat → SV} {a : Act} {n : Nat} (h : FitsF β slot a n) (hle : Env.le β β') {dst : Option Nat} (hd : ∀ d, dst = some d → d < n) {v : SV} {x : Value} (hv : SV.Den β' v x) :
    FitsF β' (putF slot (dst.map (·, v))) (a.put dst x) n := by
  cases dst with
  | none => exact ⟨h.size, fun i => SV.den_le hle _ _ (h.den i)⟩
  | some d =>
    refine ⟨by simp [Act.put, h.size], fun i => ?_⟩
    simp only [Option.map_some, putF, Act.put]
    by_cases hi : i = d
    · subst hi
      rw [up_same]
      have : i < a.tmps.size := by rw [h.size]; exact hd i rfl
      simp [this]
      exact hv
    · rw [up_ne _ _ hi]
      have := h.den i
      rw [show (a.tmps.setIfInBounds d x).getD i undef = a.tmps.getD i undef by
        simp [Array.getElem?_setIfInBounds_ne (Ne.symm hi)]]
      exact SV.den_le hle _ _ this

/-- An operation of the model's region, and the engine's. -/
structure Match (P : Program) (ops : Array Oper) (n : Nat) (o : SO) (op : Oper) : Prop where
  get : ops[o.idx]? = some op
  comp : compileOp P op.op = some o.op
  call : ∀ f args, o.op = .call f args → ∃ c, op.op = .call c ∧ c.callee = .value f ∧ c.args.toList = args
  dst : op.dst = o.dst
  dlt : ∀ d, o.dst = some d → d < n
  guard : (op.guard = none ∧ o.guard = none) ∨ ∃ g want slot og, op.guard = some (g, want) ∧ ops[g]? = some og ∧ og.dst = some slot ∧ o.guard = some (slot, want)

theorem wanted_of {P : Program} {ops : Array Oper} {n : Nat} {o : SO} {op : Oper} (hm : Match P ops n o op) {β : Env} {slot : Nat → SV} {a : Act} (hf : FitsF β slot a n) {b : Bool} (hg : guardOk o slot b) :
    Region.wanted op (yielded ops a.tmps) = b := by
  unfold guardOk at hg
  unfold Region.wanted
  rcases hm.guard with ⟨h1, h2⟩ | ⟨g, want, s, og, h1, h2, h3, h4⟩
  · rw [h2] at hg; rw [h1, hg]
  · rw [h4] at hg
    have hy : (ops[g]?).bind (·.dst) = some s := by rw [h2]; exact h3
    have hgt : ∀ v, v ≠ undef → a.tmps.getD s undef = v → a.tmps[s]? = some v := fun v hne hv => by
      by_cases hlt : s < a.tmps.size
      · rw [Array.getD_eq_getD_getElem?, Array.getElem?_eq_getElem hlt] at hv
        rw [Array.getElem?_eq_getElem hlt]
        exact congrArg some hv
      · rw [Array.getD_eq_getD_getElem?, Array.getElem?_eq_none (Nat.le_of_not_lt hlt)] at hv
        exact absurd hv.symm hne
    have hd := hf.den s
    rcases hg with ⟨c, hc, hb⟩ | ⟨hc, hb⟩
    · rw [hc] at hd
      have hy : yielded ops a.tmps g = some c := by
        unfold yielded
        have hs := hgt (.bool c) (by simp [undef]) hd.1
        simp only [hy, Option.bind_some, hs]
      rw [h1]
      simp only [hy, hb]
      cases c <;> cases want <;> rfl
    · rw [hc] at hd
      obtain ⟨vs, hv, hl⟩ := hd
      have hv : a.tmps.getD s undef = undef := by
        rw [hv]
        cases vs with
        | nil => rfl
        | cons _ _ => exact hl.elim
      have hy : yielded ops a.tmps g = none := by
        unfold yielded
        simp only [hy, Option.bind_some]
        by_cases hlt : s < a.tmps.size
        · rw [Array.getD_eq_getD_getElem?, Array.getElem?_eq_getElem hlt] at hv
          rw [Array.getElem?_eq_getElem hlt, show a.tmps[s] = undef from hv]
          rfl
        · rw [Array.getElem?_eq_none (Nat.le_of_not_lt hlt)]
      rw [h1, hb]
      simp only [hy]
      cases want <;> rfl

/-- The names that are still to come. -/
def Fresh (nm nc : Nat) (β : Env) (L : List SO) : Prop := ∀ o ∈ L, β (nm + o.idx) = none ∧ ∀ j, j < 8 → β (nc + 8 * o.idx + j) = none

structure After (P : Program) (hf : Fr) (nm nc : Nat) (dr : Bool) (N n : Nat) (B : Env) (w0 : World) (d0 : List Deferred) (L : List SO) (tr : List En) (K : FSt → Prop) (a : Act) (w : World) : Prop where
  ex : ∃ φ β h, Ff P hf nm nc dr L φ tr K ∧ FitsF β φ.slot a n ∧ Rel hf w β φ.res h ∧ Fresh nm nc β L ∧ (∀ i, nc + 8 * N ≤ i → β i = none) ∧ (∀ i, i < nm → β i = B i)
  ext : Ext w0 w
  defers : a.defers = d0

theorem exec_head {P : Program} {hf : Fr} {nm nc N n : Nat} {dr : Bool} {ops : Array Oper} {k : SO} {op : Oper} {L : List SO} {φ : FSt} {tr : List En} {K : FSt → Prop} (hm : Match P ops n k op) (hN : nm + N ≤ nc)
    (hkN : k.idx < N) (hLN : ∀ o ∈ L, o.idx < N ∧ o.idx ≠ k.idx) {w0 w : World} {β : Env} {h : Nat → Hp} {a : Act} {Q : Exit → Act → World → Prop} (hh : HeadF P hf nm nc dr k L φ tr K) (hfit : FitsF β φ.slot a n)
    (hrel : Rel hf w β φ.res h) (hfr : Fresh nm nc β (k :: L)) (htop : ∀ i, nc + 8 * N ≤ i → β i = none) {B : Env} (hB : ∀ i, i < nm → β i = B i) (hext : Ext w0 w) :
    wpOp P ops Q k.idx (After P hf nm nc dr N n B w0 a.defers L tr K) a w := by
  have hk0 := hfr k (by simp)
  have keepL : ∀ {β' : Env}, (∀ i, i ≠ nm + k.idx → ¬ (nc + 8 * k.idx ≤ i ∧ i < nc + 8 * k.idx + 8) → β' i = β i) → Fresh nm nc β' L := by
    intro β' hb o ho
    obtain ⟨h1, h2⟩ := hLN o ho
    have := hfr o (by simp [ho])
    refine ⟨by rw [hb _ (by omega) (by omega)]; exact this.1, fun j hj => by rw [hb _ (by omega) (by omega)]; exact this.2 j hj⟩
  have keepT : ∀ {β' : Env}, (∀ i, i ≠ nm + k.idx → ¬ (nc + 8 * k.idx ≤ i ∧ i < nc + 8 * k.idx + 8) → β' i = β i) → ∀ i, nc + 8 * N ≤ i → β' i = none := by
    intro β' hb i hi
    rw [hb i (by omega) (by omega)]; exact htop i hi
  have keepB : ∀ {β' : Env}, (∀ i, i ≠ nm + k.idx → ¬ (nc + 8 * k.idx ≤ i ∧ i < nc + 8 * k.idx + 8) → β' i = β i) → ∀ i, i < nm → β' i = B i := by
    intro β' hb i hi
    rw [hb i (by omega) (by omega)]; exact hB i hi
  unfold wpOp
  simp only [hm.get]
  rcases hh with ⟨δ, e, hdet, _, hF⟩ | ⟨hg, f, args, fp, hop, _, hcall⟩
  · rcases hdet with ⟨hg, rfl, rfl⟩ | ⟨hg, r, hop, hobl, rfl, rfl⟩
    · rw [wanted_of hm hfit hg]
      simp only [Bool.false_eq_true, if_false]
      refine ⟨⟨_, β, h, hF, ?_, hrel, keepL (fun _ _ _ => rfl), htop, hB⟩, hext, by rw [hm.dst]; cases k.dst <;> rfl⟩
      rw [hm.dst]
      exact hfit.put (Env.le_refl β) hm.dlt ⟨[], rfl, trivial⟩
    · rw [wanted_of hm hfit hg]
      simp only [if_true]
      refine .inl ?_
      obtain ⟨v, w', β', h', hd⟩ := opSound hm.comp (evF φ.slot) a.eval hf w β φ.res h (nm + k.idx) _ r (fun x _ => hfit.ev x)
        (fun i hi => (lk_map φ.res _ i hi).symm) hrel hk0.1 hop hobl
      have hA : After P hf nm nc dr N n B w0 a.defers L tr K (a.put op.dst v) w' := by
        refine ⟨⟨_, β', h', hF, ?_, hd.rel, keepL (fun i h1 _ => hd.keep i h1), keepT (fun i h1 _ => hd.keep i h1), keepB (fun i h1 _ => hd.keep i h1)⟩, hext.trans hd.ext, by rw [hm.dst]; cases k.dst <;> rfl⟩
        rw [hm.dst]
        exact hfit.put hd.le hm.dlt hd.den
      unfold Oper.wp
      rcases hd.run with hrun | ⟨hrun, rfl⟩
      · rw [hrun]; exact hA
      · rw [hrun]; exact hA
  · rw [wanted_of hm hfit hg]
    simp only [if_true]
    refine .inl ?_
    obtain ⟨c, hc, hcv, hca⟩ := hm.call f args hop
    have hfv := hfit.ev f
    have hvs : SV.DenL β (args.map (evF φ.slot)) (args.map a.eval) := by
      clear hcall hop hca
      induction args with
      | nil => trivial
      | cons x xs ih => exact ⟨hfit.ev x, ih⟩
    obtain ⟨id, fs, cs, fn, e1, e2, e3, e4, e5⟩ := hcall φ.res w β h (a.eval f) (args.map a.eval) (fun _ _ => rfl) hrel hk0.2 hfv hvs
    have hrun : (execOp a.eval op).run P w = .ok (.enter id (List.toArray (fs ++ args.map a.eval ++ cs))) w := by
      have hargs : c.args.map a.eval = List.toArray (args.map a.eval) := by rw [← hca]; apply Array.ext'; simp
      simp only [execOp, hc, resolve, hcv, e1, Deferred.ofValue, Sem.run_bind, Sem.run_pure, Result.andThen_ok, invoke, callFunc, run_program, e2, e3, Bool.false_eq_true, if_false, e4, hargs]
      simp
    unfold Oper.wp
    rw [hrun]
    refine e5.mono ?_
    rintro ee w' ⟨v, rv, upd, β', h', rfl, hF, hden, hle, hkeep, hrel', hupd, hext'⟩
    have hk : ∀ i, i ≠ nm + k.idx → ¬ (nc + 8 * k.idx ≤ i ∧ i < nc + 8 * k.idx + 8) → β' i = β i := fun i _ h2 => hkeep i (by omega)
    refine ⟨⟨_, β', h', hF, ?_, hrel', keepL hk, keepT hk, keepB hk⟩, hext.trans hext', by rw [hm.dst]; cases k.dst <;> rfl⟩
    rw [hm.dst]
    exact hfit.put hle hm.dlt hden

/-! ### each one's forerunners, and theirs: row i of n bits of one number -/
def ancF (n M : Nat) (ds : List Nat) : Nat := (ds.foldl (fun m p => m ||| (1 <<< p) ||| (M >>> (p * n))) 0) % 2 ^ n
def ancM (n : Nat) : List (List Nat) → Nat → Nat → Nat
  | [], _, M => M
  | ds :: r, k, M => ancM n r (k + 1) (M ||| (ancF n M ds <<< (k * n)))
def bitsOf (n m : Nat) : List Nat := (List.range n).filter fun j => m.testBit j
def ancs (l : List (List Nat)) : List (List Nat) := (List.range l.length).map fun i => bitsOf l.length (ancM l.length l 0 0 >>> (i * l.length))

theorem anc_fold {n M x : Nat} : ∀ (ds : List Nat) (m : Nat), (ds.foldl (fun m p => m ||| (1 <<< p) ||| (M >>> (p * n))) m).testBit x = true → m.testBit x = true ∨ ∃ p ∈ ds, x = p ∨ M.testBit (p * n + x) = true
  | [], _, h => .inl h
  | p :: ds, m, h => by
    rcases anc_fold ds _ h with h | ⟨q, h1, h2⟩
    · simp only [Nat.testBit_or, Nat.testBit_shiftRight, Bool.or_eq_true, Nat.one_shiftLeft, Nat.testBit_two_pow, decide_eq_true_eq] at h
      rcases h with (h | h) | h
      · exact .inl h
      · exact .inr ⟨p, List.mem_cons_self, .inl h.symm⟩
      · exact .inr ⟨p, List.mem_cons_self, .inr h⟩
    · exact .inr ⟨q, List.mem_cons_of_mem _ h1, h2⟩
theorem ancM_low {n b : Nat} : ∀ (l : List (List Nat)) (k M : Nat), b < k * n → (ancM n l k M).testBit b = M.testBit b
  | [], _, _, _ => rfl
  | ds :: r, k, M, h => by
    rw [ancM, ancM_low r (k + 1) _ (by rw [Nat.succ_mul]; omega)]
    simp [Nat.testBit_or, Nat.testBit_shiftLeft, show ¬ k * n ≤ b by omega]
theorem ancM_spec {n x : Nat} (hx : x < n) : ∀ (l : List (List Nat)) (k M j : Nat), (∀ b, k * n ≤ b → M.testBit b = false) → j < l.length → (ancM n l k M).testBit ((k + j) * n + x) = true →
    x ∈ l.getD j [] ∨ ∃ p ∈ l.getD j [], p < k + j ∧ (ancM n l k M).testBit (p * n + x) = true
  | [], _, _, _, _, h, _ => by cases h
  | ds :: r, k, M, j, hM, hj, h => by
    have hF : ∀ b, n ≤ b → (ancF n M ds).testBit b = false := fun b hb => by
      unfold ancF
      rw [Nat.testBit_mod_two_pow, decide_eq_false (by omega), Bool.false_and]
    cases j with
    | zero =>
      rw [Nat.add_zero] at h
      rw [ancM, ancM_low r (k + 1) _ (by rw [Nat.succ_mul]; omega)] at h
      simp only [Nat.testBit_or, Nat.testBit_shiftLeft, hM (k * n + x) (by omega), Bool.false_or, Bool.and_eq_true, Nat.add_sub_cancel_left] at h
      have h2 := h.2
      unfold ancF at h2
      rw [Nat.testBit_mod_two_pow, Bool.and_eq_true] at h2
      rcases anc_fold ds 0 h2.2 with h3 | ⟨p, hp, h3 | h3⟩
      · simp at h3
      · subst h3; exact .inl (by simpa using hp)
      · have hlt : p * n + x < k * n := by
          rcases Nat.lt_or_ge (p * n + x) (k * n) with h4 | h4
          · exact h4
          · rw [hM _ h4] at h3; cases h3
        have hpk : p < k := by
          rcases Nat.lt_or_ge p k with h4 | h4
          · exact h4
          · have := Nat.mul_le_mul_right n h4; omega
        exact .inr ⟨p, by simpa using hp, by omega, by rw [ancM_low (ds :: r) k M hlt]; exact h3⟩
    | succ j =>
      have hM' : ∀ b, (k + 1) * n ≤ b → (M ||| (ancF n M ds <<< (k * n))).testBit b = false := fun b hb => by
        rw [Nat.succ_mul] at hb
        simp only [Nat.testBit_or, Nat.testBit_shiftLeft, hM b (by omega), hF (b - k * n) (by omega), Bool.false_or, Bool.and_false]
      rw [ancM] at h ⊢
      have := ancM_spec hx r (k + 1) _ j hM' (by simpa using hj) (by rw [show k + 1 + j = k + (j + 1) by omega]; exact h)
      rw [show k + 1 + j = k + (j + 1) by omega] at this
      simpa using this
theorem mem_ancs {l : List (List Nat)} {i x : Nat} (hi : i < l.length) : x ∈ (ancs l).getD i [] ↔ x < l.length ∧ (ancM l.length l 0 0).testBit (i * l.length + x) = true := by
  unfold ancs
  rw [List.getD_eq_getElem?_getD, List.getElem?_map, List.getElem?_eq_getElem (by simpa using hi)]
  simp [bitsOf, List.mem_filter, Nat.testBit_shiftRight]
theorem ancs_spec (l : List (List Nat)) (k : Nat) (hk : k < l.length) (x : Nat) (hx : x ∈ (ancs l).getD k []) :
    x ∈ l.getD k [] ∨ ∃ p ∈ l.getD k [], p < k ∧ x ∈ (ancs l).getD p [] := by
  obtain ⟨h1, h2⟩ := (mem_ancs hk).1 hx
  have := ancM_spec h1 l 0 0 k (fun b _ => by simp) hk (by rw [Nat.zero_add]; exact h2)
  rw [Nat.zero_add] at this
  rcases this with h | ⟨p, p1, p2, p3⟩
  · exact .inl h
  · exact .inr ⟨p, p1, p2, (mem_ancs (by omega)).2 ⟨h1, p3⟩⟩
end Sx

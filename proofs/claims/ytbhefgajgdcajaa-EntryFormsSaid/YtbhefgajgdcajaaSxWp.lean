/- Code under the engine: the formula of a piece of code, and that it speaks true. -/
import Derived.Test.YtbhefgajgdcajaaSxCode
set_option linter.unusedVariables false
set_option linter.unusedSimpArgs false
namespace Sx
open Go

inductive SC where
  | skip
  | region (dr : Bool) (N : Nat) (L : List SO)
  | seq (a b : SC)
  | cond (c : Operand) (a b : SC)
  | block (id : Nat) (a : SC)
  | loop (a : SC)
  | exit (id : Nat)
  | ret
  | join (a b : SC)

/-- The code without the joins that a proof has laid. -/
def SC.erase : SC → SC
  | .seq a b => .seq a.erase b.erase
  | .cond c a b => .cond c a.erase b.erase
  | .block id a => .block id a.erase
  | .loop a => .loop a.erase
  | .join a b => .seq a.erase b.erase
  | x => x

def compileC (P : Program) (n : Nat) : Code → Option SC
  | .skip => some .skip
  | .region _ ops dr => (compileReg P n ops dr).map fun L => .region dr ops.size L
  | .seq a b => match compileC P n a, compileC P n b with
    | some x, some y => some (.seq x y)
    | _, _ => none
  | .cond c a b => match compileC P n a, compileC P n b with
    | some x, some y => some (.cond c x y)
    | _, _ => none
  | .block id a => (compileC P n a).map (.block id)
  | .loop a => (compileC P n a).map .loop
  | .exit id => some (.exit id)
  | .ret => some .ret
  | _ => none

inductive Ex where
  | normal
  | exit (id : Nat)
  | ret

/-- A state of lists. -/
structure St where
  sl : List SV
  rs : List (Nat × Res)
  nx : Nat

/-- What stays known through a function: the frame's size, the protected names and where they lie, the world and the deferred calls at the start. -/
structure Cx where
  n : Nat
  kp : Nat
  B : Env
  w0 : World
  d0 : List Deferred

structure RelSt (hf : Fr) (c : Cx) (st : St) (a : Act) (w : World) : Prop where
  ex : ∃ β h, FitsF β (fun i => st.sl.getD i .any) a c.n ∧ Rel hf w β (lk st.rs) h ∧ (∀ i, st.nx ≤ i → β i = none) ∧ (∀ i, i < c.kp → β i = c.B i)
  len : st.sl.length = c.n
  kp : c.kp ≤ st.nx
  ext : Ext c.w0 w
  defers : a.defers = c.d0

def exOf : Exit → Option Ex
  | .normal => some .normal
  | .exit id => some (.exit id)
  | .ret => some .ret
  | _ => none

def PostC (hf : Fr) (c : Cx) (K : Ex → St → Prop) : Exit → Act → World → Prop := fun e a w =>
  ∃ ex st, exOf e = some ex ∧ K ex st ∧ RelSt hf c st a w

/-- A loop in the formula: closed by 'LoopC.inv'. -/
def LoopC (P : Program) (hf : Fr) (kp : Nat) (body : SC) (st : St) (K : Ex → St → Prop) (_ : Tok K) : Prop :=
  ∀ (c : Cx) (code : Code) (a : Act) (w : World), c.kp = kp → compileC P c.n code = some body.erase → RelSt hf c st a w → (Code.loop code).wp P (PostC hf c K) a w

/-- What is meant by a formula. -/
def SemC (P : Program) (hf : Fr) (kp : Nat) (body : SC) (st : St) (K : Ex → St → Prop) : Prop :=
  ∀ (c : Cx) (code : Code) (a : Act) (w : World), c.kp = kp → compileC P c.n code = some body.erase → RelSt hf c st a w → code.wp P (PostC hf c K) a w

def joinK (J : St → Prop) (K : Ex → St → Prop) : Ex → St → Prop := fun e st' => match e with
    | .normal => J st'
    | .exit id => K (.exit id) st'
    | .ret => K .ret st'

/-- Two pieces, one behind the other, told apart: closed by 'JoinC.of'. -/
def JoinC (P : Program) (hf : Fr) (kp : Nat) (A : (K : Ex → St → Prop) → Tok K → Prop) (b : SC) (K : Ex → St → Prop) : Prop :=
  ∃ J : St → Prop, A (joinK J K) ⟨⟩ ∧ ∀ st', J st' → SemC P hf kp b st' K

def wpC (P : Program) (hf : Fr) (kp : Nat) : SC → St → (K : Ex → St → Prop) → Tok K → Prop
  | .skip, st, K, _ => K .normal st
  | .region dr N L, st, K, _ => match dr with
    | false => Fs P hf st.nx (st.nx + N) L st.sl st.rs (fun sl rs => K .normal ⟨sl, rs, st.nx + N + 8 * N⟩) ⟨⟩
    | true => Fc P hf st.nx (st.nx + N) true L st.sl st.rs [] (fun sl rs => K .normal ⟨sl, rs, st.nx + N + 8 * N⟩) ⟨⟩
  | .seq a b, st, K, t => wpC P hf kp a st (fun e st' => match e with
    | .normal => wpC P hf kp b st' K t
    | .exit id => K (.exit id) st'
    | .ret => K .ret st') ⟨⟩
  | .cond c a b, st, K, t => match ev st.sl c with
    | .cv (.val (.bool x)) => CondC x (wpC P hf kp a st K t) (wpC P hf kp b st K t) ⟨⟩ ⟨⟩
    | .cv (.nq n) => (n = 0 → wpC P hf kp a st K t) ∧ wpC P hf kp b st K t
    | _ => False
  | .block id a, st, K, _ => wpC P hf kp a st (fun e st' => match e with
    | .normal => K .normal st'
    | .exit i => if i = id then K .normal st' else K (.exit i) st'
    | .ret => K .ret st') ⟨⟩
  | .loop a, st, K, t => LoopC P hf kp a st K t
  | .exit id, st, K, _ => K (.exit id) st
  | .ret, st, K, _ => K .ret st
  | .join a b, st, K, _ => JoinC P hf kp (fun K' t' => wpC P hf kp a st K' t') b K

section
variable {P : Program} {hf : Fr} {c : Cx}

theorem seq_regs {nm nc n : Nat} {ops : Array Oper} {Q : Exit → Act → World → Prop} {B : Env} {w0 : World} {d0 : List Deferred} {K : FSt → Prop} (hN : nm + ops.size ≤ nc)
    (hQ : ∀ a w, After P hf nm nc false ops.size n B w0 d0 [] [] K a w → Q .normal a w) : ∀ (m k : Nat) (L : List SO) (tr : List En) (a : Act) (w : World), L.map (·.idx) = List.range' k m → k + m = ops.size →
      (∀ o ∈ L, ∃ op, Match P ops n o op) → After P hf nm nc false ops.size n B w0 d0 L tr K a w → wpOps P ops Q (List.range' k m) a w
  | 0, k, L, tr, a, w, hL, _, _, hA => by
    have : L = [] := by simpa using hL
    subst this
    obtain ⟨⟨φ, β, h, hF, hrest⟩, hext, hdef⟩ := hA
    exact hQ a w ⟨⟨φ, β, h, hF, hrest⟩, hext, hdef⟩
  | m + 1, k, L, tr, a, w, hL, hk, hm, hA => by
    rw [List.range'_succ] at hL ⊢
    rw [wpOps_cons]
    match L, hL with
    | o :: L, hL =>
      simp only [List.map_cons, List.cons.injEq] at hL
      obtain ⟨ho, hL⟩ := hL
      subst ho
      obtain ⟨⟨φ, β, h, hF, hfit, hrel, hfr, htop, hB⟩, hext, hdef⟩ := hA
      obtain ⟨op, hmo⟩ := hm o (by simp)
      have hLN : ∀ o' ∈ L, o'.idx < ops.size ∧ o'.idx ≠ o.idx := fun o' ho' => by
        have : o'.idx ∈ L.map (·.idx) := List.mem_map.2 ⟨o', ho', rfl⟩
        rw [hL, List.mem_range'_1] at this
        omega
      have hx := exec_head (Q := Q) hmo hN (by omega) hLN (HeadF.of hF) hfit hrel hfr htop hB hext
      refine wpOp_mono (fun a' w' hA' => ?_) hx
      rw [hdef] at hA'
      exact seq_regs hN hQ m (o.idx + 1) L tr a' w' hL (by omega) (fun o' ho' => hm o' (by simp [ho'])) hA'

theorem region_sound (hfollow : P.follows .mixedOrders = true) {st : St} {a : Act} {w : World} {id : Nat} {ops : Array Oper} {dr : Bool} {L : List SO} (hc : compileReg P c.n ops dr = some L) (hr : RelSt hf c st a w)
    {K : List SV → List (Nat × Res) → Prop} {t : Tok K} (hF : Fc P hf st.nx (st.nx + ops.size) dr L st.sl st.rs [] K t) :
    (Code.region id ops dr).wp P (fun e a w => e = .normal ∧ ∃ sl rs, K sl rs ∧ RelSt hf c ⟨sl, rs, st.nx + ops.size + 8 * ops.size⟩ a w) a w := by
  obtain ⟨⟨β, h, hfit, hrel, hnx, hB⟩, hlen, hkp, hext, hdef⟩ := hr
  have fin : ∀ (a : Act) (w : World), After P hf st.nx (st.nx + ops.size) dr ops.size c.n β c.w0 c.d0 [] [] (fun φ => ∃ sl' rs', φ = fsOf sl' rs' ∧ sl'.length = st.sl.length ∧ K sl' rs') a w →
      ∃ sl rs, K sl rs ∧ RelSt hf c ⟨sl, rs, st.nx + ops.size + 8 * ops.size⟩ a w := by
    intro a w hA
    obtain ⟨⟨φ, β', h', ⟨sl', rs', rfl, hl', hk⟩, hfit', hrel', _, htop', hB'⟩, hext', hdef'⟩ := hA
    exact ⟨sl', rs', hk, ⟨β', h', hfit', hrel', fun i hi => htop' i hi, fun i hi => (hB' i (by omega)).trans (hB i hi)⟩, by rw [hl']; exact hlen, by show c.kp ≤ st.nx + ops.size + 8 * ops.size; omega, hext', hdef'⟩
  have start : ∀ (w' : World), w'.heap = w.heap → Ext c.w0 w' → (∀ o ∈ L, ∀ d, o.dst = some d → d < st.sl.length) →
      After P hf st.nx (st.nx + ops.size) dr ops.size c.n β c.w0 c.d0 L [] (fun φ => ∃ sl' rs', φ = fsOf sl' rs' ∧ sl'.length = st.sl.length ∧ K sl' rs') a w' := by
    intro w' hw' hext' hd
    refine ⟨⟨fsOf st.sl st.rs, β, h, Fc_Ff hd hF, hfit, hrel.heap_eq hw', fun o ho => ⟨hnx _ (by omega), fun j hj => hnx _ (by omega)⟩, fun i hi => hnx i (by omega), fun i _ => rfl⟩, hext', hdef⟩
  cases dr with
  | true =>
    obtain ⟨hok, hll, hin, hall⟩ := compileReg_draw hc
    have hd : ∀ o ∈ L, ∀ d, o.dst = some d → d < st.sl.length := fun o ho d hd => by
      obtain ⟨op, hm⟩ := hok.mtch o ho
      rw [hlen]; exact hm.dlt d hd
    refine wp_region_any hfollow ?_
    have hmain := region_main (P := P) (hf := hf) (nm := st.nx) (nc := st.nx + ops.size) (n := c.n) (ops := ops) (B := β) (w0 := c.w0) (d0 := c.d0)
      (Q := fun e a w => e = .normal ∧ ∃ sl rs, K sl rs ∧ RelSt hf c ⟨sl, rs, st.nx + ops.size + 8 * ops.size⟩ a w) (Nat.le_refl _) hin (fun a w hA => ⟨rfl, fin a w hA⟩)
      L.length L (Array.replicate ops.size false) a { w with drawn := w.drawn + 1 } rfl hok (by simp) (fun i hi => ?_) (fun i hi hl => ?_) (start _ rfl (hext.trans ⟨rfl, rfl, rfl, Nat.le_refl _⟩) hd)
    · rw [hll] at hmain; exact hmain
    · constructor
      · intro hl; simp [Listed, hi] at hl
      · intro hn; exact absurd (hall i hi) hn
    · simp [Listed, hi] at hl
  | false =>
    have hc' : mkAll P c.n ops [] (List.range ops.size) = some L := by simpa [compileReg] using hc
    obtain ⟨m1, m2⟩ := mkAll_ok hc'
    have hd : ∀ o ∈ L, ∀ d, o.dst = some d → d < st.sl.length := fun o ho d hd => by
      obtain ⟨op, hm⟩ := (m2 o ho).2
      rw [hlen]; exact hm.dlt d hd
    refine wp_region ?_
    rw [List.range_eq_range']
    exact seq_regs (P := P) (hf := hf) (nm := st.nx) (nc := st.nx + ops.size) (n := c.n) (ops := ops) (B := β) (w0 := c.w0) (d0 := c.d0) (Nat.le_refl _) (fun a w hA => ⟨rfl, fin a w hA⟩)
      ops.size 0 L [] a w (by rw [m1, List.range_eq_range']) (by omega) (fun o ho => (m2 o ho).2) (start w rfl hext hd)

theorem inv_seq {n : Nat} {code : Code} {a b : SC} (h : compileC P n code = some (.seq a b)) : ∃ x y, code = .seq x y ∧ compileC P n x = some a ∧ compileC P n y = some b := by
  cases code <;> simp only [compileC, Option.map_eq_some_iff, reduceCtorEq, and_false, exists_const, exists_false, Option.some.injEq] at h
  · split at h <;> simp only [Option.some.injEq, reduceCtorEq, SC.seq.injEq] at h
    rename_i h1 h2
    obtain ⟨rfl, rfl⟩ := h
    exact ⟨_, _, rfl, h1, h2⟩
  · split at h <;> simp at h

theorem inv_cond {n : Nat} {code : Code} {c : Operand} {a b : SC} (h : compileC P n code = some (.cond c a b)) : ∃ x y, code = .cond c x y ∧ compileC P n x = some a ∧ compileC P n y = some b := by
  cases code <;> simp only [compileC, Option.map_eq_some_iff, reduceCtorEq, and_false, exists_const, exists_false, Option.some.injEq] at h
  · split at h <;> simp at h
  · split at h <;> simp only [Option.some.injEq, reduceCtorEq, SC.cond.injEq] at h
    rename_i h1 h2
    obtain ⟨rfl, rfl, rfl⟩ := h
    exact ⟨_, _, rfl, h1, h2⟩

theorem inv_block {n : Nat} {code : Code} {id : Nat} {a : SC} (h : compileC P n code = some (.block id a)) : ∃ x, code = .block id x ∧ compileC P n x = some a := by
  cases code <;> simp only [compileC, Option.map_eq_some_iff, reduceCtorEq, and_false, exists_const, exists_false, Option.some.injEq] at h
  · split at h <;> simp at h
  · split at h <;> simp at h
  · obtain ⟨x, h1, h2⟩ := h
    simp only [SC.block.injEq] at h2
    obtain ⟨rfl, rfl⟩ := h2
    exact ⟨_, rfl, h1⟩

theorem inv_loop {n : Nat} {code : Code} {a : SC} (h : compileC P n code = some (.loop a)) : ∃ x, code = .loop x ∧ compileC P n x = some a := by
  cases code <;> simp only [compileC, Option.map_eq_some_iff, reduceCtorEq, and_false, exists_const, exists_false, Option.some.injEq] at h
  · split at h <;> simp at h
  · split at h <;> simp at h
  · obtain ⟨x, h1, h2⟩ := h
    simp only [SC.loop.injEq] at h2
    subst h2
    exact ⟨_, rfl, h1⟩

theorem inv_region {n : Nat} {code : Code} {dr : Bool} {N : Nat} {L : List SO} (h : compileC P n code = some (.region dr N L)) : ∃ id ops, code = .region id ops dr ∧ compileReg P n ops dr = some L ∧ ops.size = N := by
  cases code <;> simp only [compileC, Option.map_eq_some_iff, reduceCtorEq, and_false, exists_const, exists_false, Option.some.injEq] at h
  · obtain ⟨x, h1, h2⟩ := h
    simp only [SC.region.injEq] at h2
    obtain ⟨rfl, rfl, rfl⟩ := h2
    exact ⟨_, _, rfl, h1, rfl⟩
  · split at h <;> simp at h
  · split at h <;> simp at h

theorem inv_skip {n : Nat} {code : Code} (h : compileC P n code = some .skip) : code = .skip := by
  cases code <;> simp only [compileC, Option.map_eq_some_iff, reduceCtorEq, and_false, exists_const, exists_false, Option.some.injEq] at h <;> first | rfl | (split at h <;> simp at h)
theorem inv_exit {n : Nat} {code : Code} {id : Nat} (h : compileC P n code = some (.exit id)) : code = .exit id := by
  cases code <;> simp only [compileC, Option.map_eq_some_iff, reduceCtorEq, and_false, exists_const, exists_false, Option.some.injEq, SC.exit.injEq] at h <;> first | rw [h] | (split at h <;> simp at h)
theorem inv_ret {n : Nat} {code : Code} (h : compileC P n code = some .ret) : code = .ret := by
  cases code <;> simp only [compileC, Option.map_eq_some_iff, reduceCtorEq, and_false, exists_const, exists_false, Option.some.injEq] at h <;> first | rfl | (split at h <;> simp at h)

theorem wpC_sound (hfollow : P.follows .mixedOrders = true) : ∀ (sc : SC) {code : Code} {st : St} {K : Ex → St → Prop} {t : Tok K} {a : Act} {w : World}, compileC P c.n code = some sc.erase → wpC P hf c.kp sc st K t → RelSt hf c st a w → code.wp P (PostC hf c K) a w
  | .skip, code, st, K, t, a, w, hc, h, hr => by
    rw [inv_skip hc]
    exact wp_skip ⟨.normal, st, rfl, h, hr⟩
  | .region dr N L, code, st, K, t, a, w, hc, h, hr => by
    obtain ⟨id, ops, rfl, hL, rfl⟩ := inv_region hc
    have h' : Fc P hf st.nx (st.nx + ops.size) dr L st.sl st.rs [] (fun sl rs => K .normal ⟨sl, rs, st.nx + ops.size + 8 * ops.size⟩) ⟨⟩ := by
      cases dr
      · exact Fs_Fc h
      · exact h
    refine wp_mono (region_sound hfollow hL hr h') ?_
    rintro e a' w' ⟨rfl, sl, rs, hk, hr'⟩
    exact ⟨.normal, _, rfl, hk, hr'⟩
  | .seq x y, code, st, K, t, a, w, hc, h, hr => by
    obtain ⟨cx, cy, rfl, h1, h2⟩ := inv_seq hc
    refine wp_seq (wp_mono (wpC_sound hfollow x h1 h hr) ?_)
    rintro e a' w' ⟨ex, st', he, hk, hr'⟩
    cases e <;> simp only [exOf, Option.some.injEq, reduceCtorEq] at he
    · subst he; exact wpC_sound hfollow y h2 hk hr'
    · subst he; exact ⟨_, st', rfl, hk, hr'⟩
    · subst he; exact ⟨_, st', rfl, hk, hr'⟩
  | .join x y, code, st, K, t, a, w, hc, h, hr => by
    obtain ⟨cx, cy, rfl, h1, h2⟩ := inv_seq hc
    obtain ⟨J, hA, hJ⟩ := h
    refine wp_seq (wp_mono (wpC_sound hfollow x h1 hA hr) ?_)
    rintro e a' w' ⟨ex, st', he, hk, hr'⟩
    cases e <;> simp only [exOf, Option.some.injEq, reduceCtorEq] at he
    · subst he; exact hJ st' hk c cy a' w' rfl h2 hr'
    · subst he; exact ⟨_, st', rfl, hk, hr'⟩
    · subst he; exact ⟨_, st', rfl, hk, hr'⟩
  | .cond x y z, code, st, K, t, a, w, hc, h, hr => by
    obtain ⟨cy, cz, rfl, h1, h2⟩ := inv_cond hc
    simp only [wpC] at h
    split at h
    · rename_i b hb
      obtain ⟨β, hh, hfit, _⟩ := hr.ex
      have hd := hfit.ev x
      rw [evF_ev, hb] at hd
      refine wp_cond (t := b) hd.1 ?_
      cases b
      · exact wpC_sound hfollow z h2 (h.2 rfl) hr
      · exact wpC_sound hfollow y h1 (h.1 rfl) hr
    · rename_i n hb
      obtain ⟨β, hh, hfit, _⟩ := hr.ex
      have hd := hfit.ev x
      rw [evF_ev, hb] at hd
      obtain ⟨b, hv, hb0⟩ := hd
      refine wp_cond (t := b) hv ?_
      cases b
      · exact wpC_sound hfollow z h2 h.2 hr
      · exact wpC_sound hfollow y h1 (h.1 (hb0 rfl)) hr
    · exact h.elim
  | .block id x, code, st, K, t, a, w, hc, h, hr => by
    obtain ⟨cx, rfl, h1⟩ := inv_block hc
    refine wp_block (wp_mono (wpC_sound hfollow x h1 h hr) ?_)
    rintro e a' w' ⟨ex, st', he, hk, hr'⟩
    cases e <;> simp only [exOf, Option.some.injEq, reduceCtorEq] at he
    · subst he; exact ⟨_, st', rfl, hk, hr'⟩
    · subst he
      simp only [Exit.inBlock]
      split
      · rename_i he; simp only [he, if_true] at hk; exact ⟨_, st', rfl, hk, hr'⟩
      · rename_i he; simp only [he, if_false] at hk; exact ⟨_, st', rfl, hk, hr'⟩
    · subst he; exact ⟨_, st', rfl, hk, hr'⟩
  | .loop x, code, st, K, t, a, w, hc, h, hr => by
    obtain ⟨cx, rfl, h1⟩ := inv_loop hc
    exact h c cx a w rfl h1 hr
  | .exit id, code, st, K, t, a, w, hc, h, hr => by
    rw [inv_exit hc]
    exact wp_exit ⟨.exit id, st, rfl, h, hr⟩
  | .ret, code, st, K, t, a, w, hc, h, hr => by
    rw [inv_ret hc]
    exact wp_ret ⟨.ret, st, rfl, h, hr⟩

theorem compileC_erase {n : Nat} : ∀ (code : Code) {sc : SC}, compileC P n code = some sc → sc.erase = sc
  | .skip, sc, h => by simp only [compileC, Option.some.injEq] at h; subst h; rfl
  | .region _ _ _, sc, h => by simp only [compileC, Option.map_eq_some_iff] at h; obtain ⟨L, _, rfl⟩ := h; rfl
  | .seq a b, sc, h => by
    simp only [compileC] at h
    split at h
    · rename_i h1 h2
      simp only [Option.some.injEq] at h; subst h
      simp only [SC.erase, compileC_erase a h1, compileC_erase b h2]
    · cases h
  | .cond _ a b, sc, h => by
    simp only [compileC] at h
    split at h
    · rename_i h1 h2
      simp only [Option.some.injEq] at h; subst h
      simp only [SC.erase, compileC_erase a h1, compileC_erase b h2]
    · cases h
  | .block _ a, sc, h => by simp only [compileC, Option.map_eq_some_iff] at h; obtain ⟨L, h1, rfl⟩ := h; simp only [SC.erase, compileC_erase a h1]
  | .loop a, sc, h => by simp only [compileC, Option.map_eq_some_iff] at h; obtain ⟨L, h1, rfl⟩ := h; simp only [SC.erase, compileC_erase a h1]
  | .exit _, sc, h => by simp only [compileC, Option.some.injEq] at h; subst h; rfl
  | .ret, sc, h => by simp only [compileC, Option.some.injEq] at h; subst h; rfl
  | .rangeFunc _ _ _ _, _, h => by simp [compileC] at h
  | .scope _, _, h => by simp [compileC] at h
  | .label _, _, h => by simp [compileC] at h
  | .goto _, _, h => by simp [compileC] at h
  | .refuse _, _, h => by simp [compileC] at h

end
end Sx

/- Code under the engine: regions, branches, blocks, loops. -/
import Derived.Test.YtbhefgajgdcajaaSxForm
set_option linter.unusedVariables false
set_option linter.unusedSimpArgs false
namespace Sx
open Go

/-! ### regions, compiled -/
def noCall : Option SOp → Option SOp
  | some (.call _ _) => none
  | r => r

theorem noCall_some {x : Option SOp} {so : SOp} (h : noCall x = some so) : x = some so ∧ ∀ f args, so ≠ .call f args := by
  unfold noCall at h
  split at h
  · cases h
  · rename_i hne
    refine ⟨h, fun f args e => ?_⟩
    subst e
    exact hne f args h

def compileO (P : Program) (op : Op) : Option SOp :=
  match op with
  | .call c => match c.callee with
    | .value f => some (.call f c.args.toList)
    | _ => noCall (compileOp P op)
  | _ => noCall (compileOp P op)

theorem compileO_ok {P : Program} {op : Op} {so : SOp} (h : compileO P op = some so) : compileOp P op = some so ∧ ∀ f args, so = .call f args → ∃ c, op = .call c ∧ c.callee = .value f ∧ c.args.toList = args := by
  unfold compileO at h
  split at h
  · rename_i c
    split at h
    · rename_i f hf
      refine ⟨by simp only [compileOp, cCall, hf]; exact h, fun g args e => ?_⟩
      simp only [Option.some.injEq] at h
      subst e
      simp only [SOp.call.injEq] at h
      exact ⟨c, rfl, by rw [hf, h.1], h.2⟩
    · obtain ⟨h1, h2⟩ := noCall_some h
      exact ⟨h1, fun f args e => absurd e (h2 f args)⟩
  · obtain ⟨h1, h2⟩ := noCall_some h
    exact ⟨h1, fun f args e => absurd e (h2 f args)⟩

def guardOf (ops : Array Oper) : Option (Nat × Bool) → Option (Option (Nat × Bool))
  | none => some none
  | some (g, w) => match (ops[g]?).bind (·.dst) with
    | some s => some (some (s, w))
    | none => none

def dstOk (n : Nat) : Option Nat → Bool
  | some d => decide (d < n)
  | none => true

def mkSO (P : Program) (n : Nat) (ops : Array Oper) (al : List (List Nat)) (i : Nat) : Option SO :=
  match ops[i]? with
  | some op => match compileO P op.op, guardOf ops op.guard with
    | some so, some g => if dstOk n op.dst then some ⟨i, op.dst, so, g, al.getD i []⟩ else none
    | _, _ => none
  | none => none

theorem mkSO_ok {P : Program} {n : Nat} {ops : Array Oper} {al : List (List Nat)} {i : Nat} {o : SO} (h : mkSO P n ops al i = some o) : o.idx = i ∧ o.anc = al.getD i [] ∧ ∃ op, Match P ops n o op := by
  unfold mkSO at h
  split at h
  case h_2 => cases h
  rename_i op hop
  split at h
  case h_2 => cases h
  rename_i so g h1 h2
  split at h
  case isFalse => cases h
  rename_i hd
  simp only [Option.some.injEq] at h
  subst h
  obtain ⟨c1, c2⟩ := compileO_ok h1
  refine ⟨rfl, rfl, op, hop, c1, c2, rfl, fun d hd' => ?_, ?_⟩
  · simp only at hd'
    rw [hd'] at hd
    simpa [dstOk] using hd
  · cases hg : op.guard with
    | none => rw [hg] at h2; simp only [guardOf, Option.some.injEq] at h2; exact .inl ⟨rfl, h2.symm⟩
    | some p =>
      obtain ⟨g', w⟩ := p
      rw [hg] at h2
      simp only [guardOf] at h2
      split at h2
      · rename_i s hs
        simp only [Option.some.injEq] at h2
        cases hgo : ops[g']? with
        | none => rw [hgo] at hs; cases hs
        | some og => rw [hgo] at hs; exact .inr ⟨g', w, s, og, rfl, hgo, hs, h2.symm⟩
      · cases h2

def mkAll (P : Program) (n : Nat) (ops : Array Oper) (al : List (List Nat)) : List Nat → Option (List SO)
  | [] => some []
  | i :: l => match mkSO P n ops al i, mkAll P n ops al l with
    | some o, some r => some (o :: r)
    | _, _ => none

theorem mkAll_ok {P : Program} {n : Nat} {ops : Array Oper} {al : List (List Nat)} : ∀ {l : List Nat} {L : List SO}, mkAll P n ops al l = some L →
    L.map (·.idx) = l ∧ ∀ o ∈ L, o.anc = al.getD o.idx [] ∧ ∃ op, Match P ops n o op
  | [], L, h => by simp only [mkAll, Option.some.injEq] at h; subst h; exact ⟨rfl, by simp⟩
  | i :: l, L, h => by
    simp only [mkAll] at h
    split at h
    · rename_i o r h1 h2
      simp only [Option.some.injEq] at h; subst h
      obtain ⟨a1, a2, a3⟩ := mkSO_ok h1
      obtain ⟨b1, b2⟩ := mkAll_ok h2
      refine ⟨by simp [a1, b1], fun o' ho' => ?_⟩
      rcases List.mem_cons.1 ho' with rfl | ho'
      · exact ⟨by rw [a1]; exact a2, a3⟩
      · exact b2 o' ho'
    · cases h

def isCallOp (ops : Array Oper) (i : Nat) : Bool :=
  match ops[i]? with
  | some o => match o.op with
    | .call c => match c.callee with
      | .value _ => true
      | _ => false
    | _ => false
  | none => false

/-- An order: what is no call as soon as it can be. -/
def greedy (preds : List (List Nat)) (call : Nat → Bool) : Nat → List Nat → List Nat → List Nat
  | 0, _, done => done.reverse
  | k + 1, todo, done =>
    match todo.find? fun i => !call i && (preds.getD i []).all done.contains with
    | some i => greedy preds call k (todo.filter (· != i)) (i :: done)
    | none => match todo.find? fun i => (preds.getD i []).all done.contains with
      | some i => greedy preds call k (todo.filter (· != i)) (i :: done)
      | none => done.reverse

def nodupB : List Nat → Bool
  | [] => true
  | x :: l => !l.contains x && nodupB l

theorem nodupB_iff : ∀ {l : List Nat}, nodupB l = true → l.Nodup
  | [], _ => List.nodup_nil
  | x :: l, h => by
    simp only [nodupB, Bool.and_eq_true, Bool.not_eq_true'] at h
    exact List.nodup_cons.2 ⟨by simpa using h.1, nodupB_iff h.2⟩

def topoB (preds : List (List Nat)) : List Nat → Bool
  | [] => true
  | i :: l => (preds.getD i []).all (fun p => !(i :: l).contains p) && topoB preds l

def compileReg (P : Program) (n : Nat) (ops : Array Oper) (dr : Bool) : Option (List SO) :=
  if dr then
    let ps := allPreds ops
    let order := greedy ps (isCallOp ops) ops.size (List.range ops.size) []
    if nodupB order && order.all (· < ops.size) && (List.range ops.size).all order.contains && topoB ps order && ps.all (fun l => l.all (· < ops.size)) then mkAll P n ops (ancs ps) order else none
  else mkAll P n ops [] (List.range ops.size)

theorem topo_of {ops : Array Oper} : ∀ {L : List SO}, (∀ o ∈ L, o.idx < ops.size) → topoB (allPreds ops) (L.map (·.idx)) = true → Topo ops L
  | [], _, _ => trivial
  | o :: L, hlt, h => by
    simp only [List.map_cons, topoB, Bool.and_eq_true] at h
    refine ⟨fun p hp hm => ?_, topo_of (fun o' ho' => hlt o' (by simp [ho'])) h.2⟩
    have hp' : (allPreds ops).getD o.idx [] = predsOf ops o.idx := by simp [allPreds, hlt o (by simp)]
    rw [hp'] at h
    have := List.all_eq_true.1 h.1 p hp
    simp only [Bool.not_eq_true'] at this
    have h2 : (o.idx :: L.map (·.idx)).contains p = true := by simpa using hm
    rw [this] at h2; cases h2

theorem compileReg_draw {P : Program} {n : Nat} {ops : Array Oper} {L : List SO} (h : compileReg P n ops true = some L) :
    RegOk P ops n L ∧ L.length = ops.size ∧ (∀ i, i < ops.size → ∀ p ∈ predsOf ops i, p < ops.size) ∧ (∀ i, i < ops.size → i ∈ L.map (·.idx)) := by
  simp only [compileReg, if_true] at h
  split at h
  case isFalse => cases h
  rename_i hc
  simp only [Bool.and_eq_true] at hc
  obtain ⟨⟨⟨⟨c1, c2⟩, c3⟩, c4⟩, c5⟩ := hc
  obtain ⟨m1, m2⟩ := mkAll_ok h
  have hlt : ∀ o ∈ L, o.idx < ops.size := fun o ho => by
    have : o.idx ∈ L.map (·.idx) := List.mem_map.2 ⟨o, ho, rfl⟩
    rw [m1] at this
    simpa using List.all_eq_true.1 c2 _ this
  have hnd := nodupB_iff c1
  have hall : ∀ i, i < ops.size → i ∈ L.map (·.idx) := fun i hi => by
    rw [m1]
    have := List.all_eq_true.1 c3 i (List.mem_range.2 hi)
    simpa using this
  refine ⟨⟨fun o ho => (m2 o ho).2, hlt, fun o ho => (m2 o ho).1, by rw [m1]; exact hnd, topo_of hlt (by rw [m1]; exact c4)⟩, ?_, ?_, hall⟩
  · have e1 : (L.map (·.idx)).length = ops.size := by
      rw [m1] at hall ⊢
      have h1 : (List.range ops.size).Nodup := List.nodup_range
      have le1 := List.Nodup.length_le_of_subset h1 (fun i hi => hall i (List.mem_range.1 hi))
      have le2 := List.Nodup.length_le_of_subset hnd (fun i hi => List.mem_range.2 (by simpa using List.all_eq_true.1 c2 i hi))
      simp only [List.length_range] at le1 le2
      omega
    simpa using e1
  · intro i hi p hp
    have hm : predsOf ops i ∈ allPreds ops := List.mem_map.2 ⟨i, List.mem_range.2 hi, rfl⟩
    have := List.all_eq_true.1 (List.all_eq_true.1 c5 _ hm) p hp
    simpa using this

end Sx

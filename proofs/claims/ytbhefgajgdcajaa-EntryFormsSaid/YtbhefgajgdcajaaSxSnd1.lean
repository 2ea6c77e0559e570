/- The engine's operations are sound, first part: values, loads, stores, new blocks. -/
import Derived.Test.YtbhefgajgdcajaaSxComp
set_option linter.unusedVariables false
set_option linter.unusedSimpArgs false
namespace Sx
open Go

def Sound (P : Program) (o : Oper) (so : SOp) : Prop :=
  ∀ (ρ : Operand → SV) (va : Operand → Value) (hf : Fr) (w : World) (β : Env) (res : Nat → Res) (h : Nat → Hp) (n : Nat) (rs : List (Nat × Res)) (r : OpRes),
    (∀ x ∈ so.operands, SV.Den β (ρ x) (va x)) → (∀ i ∈ need ρ so, res i = lk rs i) → Rel hf w β res h → β n = none →
    opFn ρ so rs n = some r → r.obl → ∃ v w' β' h', Done P hf ((execOp va o).run P w) w β res h n r v w' β' h'

section
variable {P : Program} {o : Oper}

theorem snd_move {x : Operand} (h : o.op = .move x ∨ o.op = .assign x) : Sound P o (.mov x) := by
  intro ρ va hf w β res hp n rs r hd _ hr hn hop _
  simp only [opFn, Option.some.injEq] at hop
  subst hop
  exact done_pure hr hn (v := va x) (by rcases h with h | h <;> simp [execOp, h]) (hd x (by simp [SOp.operands]))

theorem snd_pick {c a b : Operand} (h : o.op = .pick c a b) : Sound P o (.pick c a b) := by
  intro ρ va hf w β res hp n rs r hd _ hr hn hop _
  have hc := hd c (by simp [SOp.operands])
  simp only [opFn] at hop
  split at hop
  · rename_i e
    simp only [Option.some.injEq] at hop; subst hop
    rw [e] at hc
    exact done_pure hr hn (v := va a) (by simp [execOp, h, hc.1, asBool]) (hd a (by simp [SOp.operands]))
  · rename_i e
    simp only [Option.some.injEq] at hop; subst hop
    rw [e] at hc
    exact done_pure hr hn (v := va b) (by simp [execOp, h, hc.1, asBool]) (hd b (by simp [SOp.operands]))
  · cases hop

theorem unfr0 (n : Nat) : Unfr (0, 0) n := .inl rfl

theorem snd_box {t : TypeId} {x : Operand} (h : o.op = .box t x) : Sound P o (.box x) := by
  intro ρ va hf w β res hp n rs r hd _ hr hn hop _
  have hx := hd x (by simp [SOp.operands])
  simp only [opFn] at hop
  split at hop
  · rename_i cs e
    simp only [Option.some.injEq] at hop; subst hop
    have hl := sv_cells hx e
    have hlen := CV.denL_length _ _ hl
    refine done_alloc hr hn (bd := ⟨some ⟨w.heap.size, 0, none⟩, cs.length⟩) (o := .cells (va x).cells t) (v := .pointer (some ⟨w.heap.size, 0, none⟩)) ?_ ?_ ?_
    · simp [execOp, h, Instr.box, newVar, newRow]
    · exact ⟨_, _, Env.up_same _ _ _, by simp [add_none]⟩
    · exact ⟨w.heap.size, (va x).cells.toList, t, (0, 0), rfl, CV.denL_le (Env.le_up hn) _ _ hl, by simp, unfr0 _⟩
  · cases hop

theorem zeroOf_run {P : Program} {t : TypeId} {z : List Value} {w : World} (h : zeroOf P t = some z) :
    ∃ i zv, P.info? t = some i ∧ i.zero = some zv ∧ zv.cells.toList = z ∧ (∀ v ∈ z, Plain v) ∧ z.length = i.size ∧ (zeroValue t).run P w = .ok zv w ∧ (typeInfo t).run P w = .ok i w := by
  unfold zeroOf at h
  split at h
  · rename_i i hi
    split at h
    · rename_i zv hz
      split at h
      · rename_i hc
        simp only [Bool.and_eq_true, decide_eq_true_eq] at hc
        simp only [Option.some.injEq] at h
        subst h
        refine ⟨i, zv, hi, hz, rfl, fun v hv => plainB_iff.1 (List.all_eq_true.1 hc.1 v hv), by simpa using hc.2, ?_, ?_⟩
        · simp [zeroValue, typeInfo, hi, hz]
        · simp [typeInfo, hi]
      · cases h
    · cases h
  · cases h

theorem snd_alloc {t : TypeId} {z : List Value} (h : o.op = .alloc t) (hz : zeroOf P t = some z) : Sound P o (.new z) := by
  intro ρ va hf w β res hp n rs r hd _ hr hn hop _
  simp only [opFn, Option.some.injEq] at hop; subst hop
  obtain ⟨i, zv, _, _, h3, h4, _, h6, _⟩ := zeroOf_run (w := w) hz
  refine done_alloc hr hn (bd := ⟨some ⟨w.heap.size, 0, none⟩, z.length⟩) (o := .cells zv.cells t) (v := .pointer (some ⟨w.heap.size, 0, none⟩)) ?_ ?_ ?_
  · simp [execOp, h, Instr.alloc, h6, newVar, newRow]
  · exact ⟨_, _, Env.up_same _ _ _, by simp [add_none]⟩
  · exact ⟨w.heap.size, z, t, (0, 0), by simp, denL_vals z h4, by simp [← h3], unfr0 _⟩

theorem run_isAgg_of {P : Program} {t : TypeId} {d : TypeDesc} {w : World} (h : P.underlying t = some d) :
    (isAgg t).run P w = .ok (match d with | .struct _ | .array _ _ => true | _ => false) w := by
  cases d <;> simp [isAgg, run_underlying h]

theorem run_sizeOf_of {P : Program} {t : TypeId} {i : TypeInfo} {w : World} (h : P.info? t = some i) : (Go.sizeOf t).run P w = .ok i.size w := by
  simp [Go.sizeOf, typeInfo, h]

theorem done_load {t : TypeId} {a : Operand} {agg : Bool} {m : Nat} (h : o.op = .load t a)
    (hl : ∀ (w : World) (ad : Addr), (loadVar t ad).run P w = if agg then ((loadCells ad m).run P w).andThen fun cs w' => .ok (.agg cs) w' else (load ad).run P w) (hm : agg = false → m = 1)
    {va : Operand → Value} {hf : Fr} {w : World} {β : Env} {res : Nat → Res} {hp : Nat → Hp} {n : Nat} (hr : Rel hf w β res hp) (hn : β n = none) {p : Prop} {ad : Addr} {vs : List Value} {l : List CV} (hx : va a = .pointer (some ad)) (hlen : vs.length = m) (hden : CV.DenL β l vs)
    (hcell : ∀ j, j < m → w.cell? (ad.add j) = vs[j]?) : ∃ v w' β' h', Done P hf ((execOp va o).run P w) w β res hp n ⟨p, svOf agg l, []⟩ v w' β' h' := by
  have hrun : (execOp va o).run P w = ((loadVar t ad).run P w).andThen fun v w' => .ok (.value v) w' := by
    simp [execOp, h, hx, Instr.loadAt, Instr.sureAddr]
  cases hagg : agg with
  | true =>
    refine done_pure hr hn (v := .agg vs.toArray) ?_ ⟨vs, rfl, hden⟩
    rw [hrun, hl, hagg, if_pos rfl, run_loadCells hlen hcell]
    rfl
  | false =>
    have h1 := hm hagg
    subst h1
    have hx0 := hcell 0 (by omega)
    have : vs.length = 1 := hlen
    obtain ⟨v, rfl⟩ : ∃ v, vs = [v] := by
      match vs, this with
      | [v], _ => exact ⟨v, rfl⟩
    obtain ⟨c, rfl⟩ : ∃ c, l = [c] := by
      have hl2 := CV.denL_length _ _ hden
      match l, hl2 with
      | [c], _ => exact ⟨c, rfl⟩
    refine done_pure hr hn (v := v) ?_ ?_
    · rw [hrun, hl, hagg]
      simp only [Bool.false_eq_true, if_false]
      have e0 : ad.add 0 = ad := by simp [Addr.add]
      rw [e0] at hx0
      rw [Sx.run_load hx0]
      rfl
    · exact hden.1

/-- Cells of the memory that is never written again, in the world. -/
theorem rp_world {hf : Fr} {w : World} {β : Env} {res : Nat → Res} {hp : Nat → Hp} (hr : Rel hf w β res hp) {l : List CV} {x : Value} (hx : CV.Den β (.rp l) x) :
    ∃ a vs, x = .pointer (some a) ∧ a.spot = none ∧ CV.DenL β l vs ∧ ∀ j, j < l.length → w.cell? (a.add j) = vs[j]? := by
  obtain ⟨a, vs, h1, h2, h3, h4⟩ := hx
  have hl := CV.denL_length _ _ h3
  refine ⟨a, vs, h1, h2, CV.denL_le (Env.bare_le β) _ _ h3, fun j hj => ?_⟩
  have := h4 j hj
  rw [List.getElem?_eq_getElem (by omega)] at this ⊢
  exact hcell_world hr.fzn.sub this

theorem snd_load {t : TypeId} {a : Operand} {agg : Bool} {m : Nat} (h : o.op = .load t a)
    (hl : ∀ (w : World) (ad : Addr), (loadVar t ad).run P w = if agg then ((loadCells ad m).run P w).andThen fun cs w' => .ok (.agg cs) w' else (load ad).run P w) (hm : agg = false → m = 1) :
    Sound P o (.load agg m a) := by
  intro ρ va hf w β res hp n rs r hd hrs hr hn hop ho
  have ha := hd a (by simp [SOp.operands])
  simp only [opFn] at hop
  split at hop
  case h_3 => cases hop
  case h_2 l e =>
    rw [e] at ha
    split at hop
    case isFalse => cases hop
    rename_i hle
    simp only [Option.some.injEq] at hop; subst hop
    obtain ⟨ad, vs, hx, _, hden, hcell⟩ := rp_world hr ha
    have hl2 := CV.denL_length _ _ hden
    exact done_load h hl hm hr hn (vs := vs.take m) hx (by simp; omega) (CV.denL_take _ _ _ hden) (fun j hj => by rw [hcell j (by omega), List.getElem?_take_of_lt hj])
  rename_i i sz idx fld e
  rw [e] at ha
  rw [← hrs i (by simp [need, e, SV.nm])] at hop
  split at hop
  case h_2 => cases hop
  rename_i p l hg
  simp only [Option.some.injEq] at hop; subst hop
  obtain ⟨ad, vs, hx, _, hlen, hden, hcell⟩ := rget_world hr hg ho ha
  exact done_load h hl hm hr hn hx hlen hden hcell

theorem snd_cLoad {t : TypeId} {a : Operand} {so : SOp} (h : o.op = .load t a) (hc : cLoad P t a = some so) : Sound P o so := by
  unfold cLoad at hc
  split at hc
  · rename_i d i h1 h2
    have hag : ∀ w : World, (isAgg t).run P w = .ok (isAggD d) w := fun w => by
      rw [run_isAgg_of h1]; cases d <;> rfl
    split at hc <;> (rename_i hd; simp only [Option.some.injEq] at hc; subst hc)
    · exact snd_load h (fun w ad => by simp [loadVar, hag, hd, run_sizeOf_of h2]) (fun e => by cases e)
    · exact snd_load h (fun w ad => by simp [loadVar, hag, hd]) (fun _ => rfl)
  · cases hc

end
end Sx

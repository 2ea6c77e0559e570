/- The engine's operations are sound, fifth part: fields, elements, slices, lengths, what is built. -/
import Derived.Test.YtbhefgajgdcajaaSxSnd4
set_option linter.unusedVariables false
set_option linter.unusedSimpArgs false
namespace Sx
open Go

section
variable {P : Program} {o : Oper}

theorem svOf_take_one (l : List CV) (off : Nat) : svOf false ((l.drop off).take 1) = .cv ((l.drop off).headD .any) := by
  unfold svOf
  simp only [Bool.false_eq_true, if_false]
  cases l.drop off <;> rfl

theorem snd_fld {s : TypeId} {x : Operand} {f : Nat} {so : SOp} (h : o.op = .field s x f) (hc : cField P s x f = some so) : Sound P o so := by
  unfold cField fieldOf at hc
  cases hu : P.underlying s with
  | none => simp [hu] at hc
  | some d =>
    cases d <;> simp only [hu] at hc <;> try (cases hc; done)
    rename_i fs
    cases hg : fs[f]? with
    | none => simp [hg] at hc
    | some g =>
      simp only [hg] at hc
      split at hc
      case h_2 => cases hc
      rename_i d i h1 h2
      have key : ∀ (agg : Bool) (m : Nat), isAggD d = agg → m = (if agg then i.size else 1) → Sound P o (.fld agg g.offset m x) := by
        intro agg m hagg hm ρ va hf w β res hp n rs r hd _ hr hn hop _
        have hx := hd x (by simp [SOp.operands])
        simp only [opFn] at hop
        split at hop
        case h_2 => cases hop
        rename_i l e
        rw [e] at hx
        split at hop
        case isFalse => cases hop
        rename_i hle
        simp only [Option.some.injEq] at hop; subst hop
        obtain ⟨vs, hv, hden⟩ := hx
        obtain ⟨v, hv1, hv2⟩ := part_den (w := w) (off := g.offset) h1 h2 hden (fun hb => by rw [hagg] at hb; subst hb; simp at hm; omega)
        rw [hagg, ← hm] at hv2
        refine done_pure hr hn (v := v) ?_ hv2
        simp [execOp, h, hv, Instr.field, run_underlying hu, hg, asAgg, hv1]
      split at hc <;> (rename_i hb; simp only [Option.some.injEq] at hc; subst hc)
      · exact key true _ hb rfl
      · exact key false 1 (by simpa using hb) rfl

theorem foldl_splice : ∀ (cs : List Value) (off : Nat) (acc : Array Value) (k : Nat), off + k + cs.length ≤ acc.size →
    ((cs.zipIdx k).foldl (fun a (p : Value × Nat) => a.setIfInBounds (off + p.2) p.1) acc) = (splice acc.toList (off + k) cs).toArray
  | [], off, acc, k, _ => by simp [splice_nil]
  | c :: cs, off, acc, k, h => by
    simp only [List.length_cons] at h
    simp only [List.zipIdx_cons, List.foldl_cons]
    rw [foldl_splice cs off (acc.setIfInBounds (off + k) c) (k + 1) (by simp; omega)]
    rw [← splice_cons (by simp; omega)]
    congr 2
    simp

theorem fill_run {β : Env} {ρ : Operand → SV} {va : Operand → Value} (place : Nat → Option (Nat × Nat)) : ∀ (ps : List (Nat × Operand)) (qs : List (Nat × Nat × Operand)) (l l' : List CV) (vs : List Value),
    qs.map (fun q => some (q.1, q.2.1, q.2.2)) = ps.map (fun p => (place p.1).map fun x => (x.1, x.2, p.2)) → (∀ q ∈ qs, SV.Den β (ρ q.2.2) (va q.2.2)) → CV.DenL β l vs → fillC ρ qs l = some l' →
    ∃ vs', Instr.fill place vs.toArray (ps.map fun p => (p.1, va p.2)) = some vs'.toArray ∧ CV.DenL β l' vs'
  | [], [], l, l', vs, _, _, hd, h => by
    simp only [fillC, Option.some.injEq] at h
    subst h
    exact ⟨vs, by simp [Instr.fill], hd⟩
  | [], _ :: _, _, _, _, h, _, _, _ => by simp at h
  | _ :: _, [], _, _, _, h, _, _, _ => by simp at h
  | (i, x) :: ps, (off, sz, y) :: qs, l, l', vs, hm, hq, hd, h => by
    simp only [List.map_cons, List.cons.injEq] at hm
    obtain ⟨hm1, hm2⟩ := hm
    cases hp : place i with
    | none => rw [hp] at hm1; simp at hm1
    | some pr =>
      rw [hp] at hm1
      simp only [Option.map_some, Option.some.injEq, Prod.mk.injEq] at hm1
      obtain ⟨rfl, rfl, rfl⟩ := hm1
      simp only [fillC] at h
      split at h
      case h_2 => cases h
      rename_i cs hcs
      split at h
      case isFalse => cases h
      rename_i hcond
      have hy := hq (pr.1, pr.2, y) (by simp)
      have hc := sv_cells hy hcs
      have hlc := CV.denL_length _ _ hc
      have hlv := CV.denL_length _ _ hd
      simp only [Array.length_toList] at hlc
      obtain ⟨vs', h1, h2⟩ := fill_run place ps qs _ l' _ hm2 (fun q hq' => hq q (by simp [hq'])) (denL_splice (off := pr.1) hd hc) h
      refine ⟨vs', ?_, h2⟩
      simp only [List.map_cons, Instr.fill, hp]
      rw [if_neg (by simp; omega)]
      have := foldl_splice (va y).cells.toList pr.1 vs.toArray 0 (by simp; omega)
      simp only [Nat.add_zero] at this
      rw [show (va y).cells.zipIdx.foldl (fun (a : Array Value) (p : Value × Nat) => a.setIfInBounds (pr.1 + p.2) p.1) vs.toArray = (splice vs pr.1 (va y).cells.toList).toArray by
        rw [← this, ← Array.foldl_toList]; simp]
      exact h1

theorem snd_build {t : TypeId} {ps : Array (Nat × Operand)} {so : SOp} (h : o.op = .build t ps) (hc : cBuild P t ps = some so) : Sound P o so := by
  unfold cBuild at hc
  split at hc
  · rename_i fs z h1 h2
    split at hc
    case isFalse => cases hc
    rename_i hall
    cases hq : partsOf P fs ps.toList with
    | none => rw [hq] at hc; simp at hc
    | some qs =>
      rw [hq] at hc
      simp only [Option.map_some, Option.some.injEq] at hc; subst hc
      intro ρ va hf w β res hp n rs r hd _ hr hn hop _
      obtain ⟨i, zv, _, _, hz, hpl, _, hzr, _⟩ := zeroOf_run (w := w) h2
      simp only [opFn] at hop
      split at hop
      case h_2 => cases hop
      rename_i l' hfill
      simp only [Option.some.injEq] at hop; subst hop
      -- the places, looked up
      have hplaces : ∀ (gs : List Field), (gs.all fun f => (P.info? f.type).isSome) = true →
          ∃ pl : List (Nat × Nat), (gs.mapM (fun f => do pure (f.offset, ← Go.sizeOf f.type) : Field → Sem (Nat × Nat))).run P w = .ok pl w ∧ pl.length = gs.length ∧
            ∀ (k : Nat) (f : Field), gs[k]? = some f → ∃ j, P.info? f.type = some j ∧ pl[k]? = some (f.offset, j.size) := by
        intro gs
        induction gs with
        | nil => intro _; exact ⟨[], by simp, rfl, by simp⟩
        | cons g gs ih =>
          intro ha
          simp only [List.all_cons, Bool.and_eq_true] at ha
          obtain ⟨pl, e1, e2, e3⟩ := ih ha.2
          obtain ⟨j, hj⟩ := Option.isSome_iff_exists.1 ha.1
          refine ⟨(g.offset, j.size) :: pl, ?_, by simp [e2], ?_⟩
          · rw [List.mapM_cons]
            simp only [Sem.run_bind, Sem.run_pure, run_sizeOf_of hj, Result.andThen_ok, e1]
          · intro k f hk
            cases k with
            | zero => simp at hk; subst hk; exact ⟨j, hj, rfl⟩
            | succ k => simpa using e3 k f (by simpa using hk)
      obtain ⟨pl, e1, e2, e3⟩ := hplaces fs.toList hall
      have hparts : ∀ (xs : List (Nat × Operand)) (qs : List (Nat × Nat × Operand)), partsOf P fs xs = some qs →
          qs.map (fun q => some (q.1, q.2.1, q.2.2)) = xs.map (fun p => (pl.toArray[p.1]?).map fun x => (x.1, x.2, p.2)) := by
        intro xs
        induction xs with
        | nil => intro qs hq; simp only [partsOf, Option.some.injEq] at hq; subst hq; rfl
        | cons x xs ih =>
          intro qs hq
          obtain ⟨k, y⟩ := x
          simp only [partsOf] at hq
          split at hq
          case h_2 => cases hq
          rename_i f r hf' hr'
          split at hq
          case h_2 => cases hq
          rename_i j hj
          simp only [Option.some.injEq] at hq; subst hq
          have := ih r hr'
          obtain ⟨j', hj', hp'⟩ := e3 k f (by simpa using hf')
          rw [hj] at hj'; cases hj'
          simp only [List.map_cons, this]
          simp [hp']
      have hden0 : CV.DenL β (z.map .val) z := denL_vals z hpl
      obtain ⟨vs', hf1, hf2⟩ := fill_run (β := β) (ρ := ρ) (va := va) (fun i => pl.toArray[i]?) ps.toList qs (z.map .val) l' z (hparts _ _ hq)
        (fun q hq' => hd q.2.2 (List.mem_map.2 ⟨q, hq', rfl⟩)) hden0 hfill
      refine done_pure hr hn (v := .agg vs'.toArray) ?_ ⟨vs', rfl, hf2⟩
      have hmapM : (fs.mapM (fun f => do pure (f.offset, ← Go.sizeOf f.type) : Field → Sem (Nat × Nat))).run P w = .ok pl.toArray w := by
        rw [← Array.toArray_toList (xs := fs), List.mapM_toArray]
        simp only [Sem.run_map, e1, Result.andThen_ok]
      have hzc : zv.cells = z.toArray := by rw [← hz]
      have hargs : (ps.map fun p => (p.1, va p.2)).toList = ps.toList.map fun p => (p.1, va p.2) := by simp
      simp only [execOp, h, Instr.build, Sem.run_bind, hzr, Result.andThen_ok, run_underlying h1, hmapM, hzc]
      rw [hargs, hf1]
      simp
  · rename_i k e z h1 h2
    cases hi : P.info? e with
    | none => rw [hi] at hc; simp at hc
    | some i =>
      rw [hi] at hc
      simp only [Option.map_some, Option.some.injEq] at hc; subst hc
      intro ρ va hf w β res hp n rs r hd _ hr hn hop _
      obtain ⟨i', zv, _, _, hz, hpl, _, hzr, _⟩ := zeroOf_run (w := w) h2
      simp only [opFn] at hop
      split at hop
      case h_2 => cases hop
      rename_i l' hfill
      simp only [Option.some.injEq] at hop; subst hop
      obtain ⟨vs', hf1, hf2⟩ := fill_run (β := β) (ρ := ρ) (va := va) (fun j => some (j * i.size, i.size)) ps.toList (ps.toList.map fun p => (p.1 * i.size, i.size, p.2)) (z.map .val) l' z
        (by simp) (fun q hq' => hd q.2.2 (List.mem_map.2 ⟨q, hq', rfl⟩)) (denL_vals z hpl) hfill
      refine done_pure hr hn (v := .agg vs'.toArray) ?_ ⟨vs', rfl, hf2⟩
      have hzc : zv.cells = z.toArray := by rw [← hz]
      have hargs : (ps.map fun p => (p.1, va p.2)).toList = ps.toList.map fun p => (p.1, va p.2) := by simp
      simp only [execOp, h, Instr.build, Sem.run_bind, hzr, Result.andThen_ok, run_underlying h1, run_sizeOf_of hi, hzc]
      rw [hargs, hf1]
      simp
  · cases hc

end
end Sx

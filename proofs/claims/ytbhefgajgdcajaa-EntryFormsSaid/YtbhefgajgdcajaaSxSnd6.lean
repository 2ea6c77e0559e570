/- The engine's operations are sound, sixth part: slices, elements, lengths, functions. -/
import Derived.Test.YtbhefgajgdcajaaSxSnd5
set_option linter.unusedVariables false
set_option linter.unusedSimpArgs false
namespace Sx
open Go

section
variable {P : Program} {o : Oper}

theorem flatten_rep (n : Nat) (z : List Value) (hz : z ≠ []) : ((Array.range (n * z.length)).map (fun i => z.toArray[i % z.toArray.size]!)).toList = (List.replicate n z).flatten := by
  have hpos : 0 < z.length := List.length_pos_iff.2 hz
  apply List.ext_getElem?
  intro j
  by_cases hj : j < n * z.length
  · have hq : j / z.length < n := Nat.div_lt_of_lt_mul (by rw [Nat.mul_comm]; exact hj)
    have h1 : ((Array.range (n * z.length)).map (fun i => z.toArray[i % z.toArray.size]!)).toList[j]? = some (z[j % z.length]'(Nat.mod_lt _ hpos)) := by
      have hm : j % z.length < z.length := Nat.mod_lt _ hpos
      simp [hj, hm]
    rw [h1]
    clear h1
    induction n generalizing j with
    | zero => omega
    | succ n ih =>
      simp only [List.replicate_succ, List.flatten_cons]
      rw [List.getElem?_append]
      by_cases hlt : j < z.length
      · rw [if_pos hlt]
        simp [Nat.mod_eq_of_lt hlt, hlt]
      · rw [if_neg hlt]
        have hmm : j % z.length = (j - z.length) % z.length := by rw [Nat.mod_eq_sub_mod (by omega)]
        rw [Nat.succ_mul] at hj
        have := ih (j - z.length) (by omega) (Nat.div_lt_of_lt_mul (by rw [Nat.mul_comm]; omega))
        rw [← this]
        simp [hmm]
  · rw [List.getElem?_eq_none (by simp; omega), List.getElem?_eq_none (by simp; omega)]

theorem rows_den {β : Env} {z : List Value} (hz : ∀ v ∈ z, Plain v) : ∀ n, CV.DenL β (rows n z) (List.replicate n z).flatten
  | 0 => by simp [rows, CV.DenL]
  | n + 1 => by
    have := rows_den (β := β) hz n
    unfold rows at this ⊢
    simp only [List.replicate_succ, List.flatten_cons]
    exact CV.denL_append _ _ _ _ (denL_vals z hz) this

theorem snd_bslice {t : TypeId} {len : Nat} {ps : Array (Nat × Operand)} {so : SOp} (h : o.op = .buildSlice t len ps) (hc : cBuildSlice P t len ps = some so) : Sound P o so := by
  unfold cBuildSlice at hc
  split at hc
  case h_2 => cases hc
  rename_i e h1
  split at hc
  case h_2 => cases hc
  rename_i i z h2 h3
  split at hc
  case isFalse => cases hc
  rename_i hcond
  simp only [Option.some.injEq] at hc; subst hc
  intro ρ va hf w β res hp n rs r hd _ hr hn hop _
  obtain ⟨i', zv, hi', _, hz, hpl, hlen, hzr, _⟩ := zeroOf_run (w := w) h3
  rw [h2] at hi'; cases hi'
  simp only [opFn] at hop
  split at hop
  case h_2 => cases hop
  rename_i l' hfill
  simp only [Option.some.injEq] at hop; subst hop
  have hzne : z ≠ [] := by intro e0; rw [e0] at hlen; simp at hlen; omega
  obtain ⟨vs', hf1, hf2⟩ := fill_run (β := β) (ρ := ρ) (va := va) (fun j => some (j * i.size, i.size)) ps.toList (ps.toList.map fun p => (p.1 * i.size, i.size, p.2)) _ l' _
    (by simp) (fun q hq' => by
      obtain ⟨p, hp1, rfl⟩ := List.mem_map.1 hq'
      exact hd p.2 (List.mem_map.2 ⟨p, hp1, rfl⟩)) (rows_den hpl len) hfill
  have hzc : zv.cells = z.toArray := by rw [← hz]
  have hargs : (ps.map fun p => (p.1, va p.2)).toList = ps.toList.map fun p => (p.1, va p.2) := by simp
  have hl2 := CV.denL_length _ _ hf2
  have hl' : l'.length = len * i.size := by
    have : ∀ (qs : List (Nat × Nat × Operand)) (l l' : List CV), fillC ρ qs l = some l' → l'.length = l.length := by
      intro qs
      induction qs with
      | nil => intro l l' hq; simp only [fillC, Option.some.injEq] at hq; rw [hq]
      | cons q qs ih =>
        intro l l' hq
        obtain ⟨a, b, c⟩ := q
        simp only [fillC] at hq
        split at hq
        case h_2 => cases hq
        rename_i cs _
        split at hq
        case isFalse => cases hq
        rename_i hcnd
        rw [ih _ _ hq]
        unfold spliceC
        simp
        omega
    rw [this _ _ _ hfill]
    simp [rows, hlen]
  refine done_alloc hr hn (bd := ⟨some ⟨w.heap.size, 0, none⟩, l'.length⟩) (o := .cells vs'.toArray e) (v := .slice (some ⟨w.heap.size, 0, none⟩) len len) ?_ ?_ ?_
  · have hlz : ¬ (len * i.size > 2 ^ 24) := by have := hcond.2; omega
    by_cases h0 : len * i.size = 0
    · have hl0 : len = 0 := by rcases Nat.mul_eq_zero.1 h0 with h | h <;> omega
      subst hl0
      simp only [List.replicate_zero, List.flatten_nil] at hf1
      simp only [execOp, h, Instr.buildSlice, Sem.run_bind, run_underlying h1, Result.andThen_ok, run_sizeOf_of h2, hlz, if_false, h0, if_true, Sem.run_pure]
      have hr0 : Array.range 0 = #[] := rfl
      rw [hargs]
      simp [hr0, hf1, newRow]
    · have hrep := flatten_rep len z hzne
      rw [hlen] at hrep
      have hrep' : (Array.range (len * i.size)).map (fun i => z.toArray[i % z.toArray.size]!) = ((List.replicate len z).flatten).toArray := by rw [← hrep]
      simp only [execOp, h, Instr.buildSlice, Sem.run_bind, run_underlying h1, Result.andThen_ok, run_sizeOf_of h2, hlz, if_false, h0, hzr, hzc, Sem.run_pure]
      rw [hrep', hargs, hf1]
      simp [newRow]
  · refine ⟨_, _, Env.up_same _ _ _, by simp [hl'], hcond.1, (fun m hm => by cases hm), some ⟨w.heap.size, 0, none⟩, ?_, (fun _ => ⟨_, rfl, by simp [add_none]⟩)⟩
    simp only [Option.getD_none]
    congr 1
    rw [hl', Nat.mul_div_cancel _ hcond.1]; rfl
  · exact ⟨w.heap.size, vs', e, (0, 0), rfl, CV.denL_le (Env.le_up hn) _ _ hf2, rfl, unfr0 _⟩

theorem add_add' (a : Addr) (m n : Nat) : (a.add m).add n = a.add (m + n) := by
  unfold Addr.add
  split <;> split <;> simp_all <;> omega

theorem snd_iaddrL {t e : TypeId} {j : TypeInfo} {x y : Operand} (h1 : P.underlying t = some (.slice e)) (h2 : P.info? e = some j) (h : o.op = .indexAddr t x y) : Sound P o (.iaddrL j.size x y) := by
  intro ρ va hf w β res hp n rs r hd _ hr hn hop ho
  have hx := hd x (by simp [SOp.operands])
  have hy := hd y (by simp [SOp.operands])
  simp only [opFn] at hop
  split at hop
  case h_3 => cases hop
  case h_2 sz' len mc f k a ex ey =>
    rw [ex] at hx; rw [ey] at hy
    split at hop
    case isFalse => cases hop
    rename_i hsz; subst hsz
    simp only [Option.some.injEq] at hop; subst hop
    obtain ⟨ho1, ho2⟩ := ho
    obtain ⟨ad, cap, hv, hle, hrp⟩ := rsl_row hx (i := a.toNat) (by omega)
    refine done_pure hr hn (v := .pointer (some (ad.add (a.toNat * j.size)))) ?_ hrp
    simp [execOp, h, hv, hy.1, Instr.indexAt, asIntOf, run_underlying h1, run_sizeOf_of h2, ho1, ho2]
  rename_i i sz' lo len mc k a ex ey
  rw [ex] at hx; rw [ey] at hy
  split at hop
  case isFalse => cases hop
  rename_i hsz; subst hsz
  simp only [Option.some.injEq] at hop; subst hop
  obtain ⟨ad, cap, hb, hle, hpos, hmc, ad', hv, haddr⟩ := hx
  obtain ⟨ho1, ho2⟩ := ho
  have hc0 : 0 < mc.getD (cap / j.size - lo) := by
    cases mc with
    | none =>
      simp only [Option.getD_none]
      have : (lo + len) ≤ cap / j.size := (Nat.le_div_iff_mul_le hpos).2 hle
      omega
    | some m => have := (hmc m rfl).1; simp only [Option.getD_some]; omega
  obtain ⟨a0, rfl, rfl⟩ := haddr hc0
  refine done_pure hr hn (v := .pointer (some ((a0.add (lo * j.size)).add (a.toNat * j.size)))) ?_ ⟨a0, cap, hb, ?_⟩
  · simp [execOp, h, hv, hy.1, Instr.indexAt, asIntOf, run_underlying h1, run_sizeOf_of h2, ho1, ho2]
  · rw [add_add', Nat.add_mul]; simp

theorem snd_iaddrA {t e : TypeId} {m : Nat} {j : TypeInfo} {x y : Operand} (h1 : P.underlying t = some (.array m e)) (h2 : P.info? e = some j) (h : o.op = .indexAddr t x y) : Sound P o (.iaddrA m j.size x y) := by
  intro ρ va hf w β res hp n rs r hd _ hr hn hop ho
  have hx := hd x (by simp [SOp.operands])
  have hy := hd y (by simp [SOp.operands])
  simp only [opFn] at hop
  split at hop
  · rename_i i k a ex ey
    rw [ex] at hx; rw [ey] at hy
    simp only [Option.some.injEq] at hop; subst hop
    obtain ⟨ho1, ho2⟩ := ho
    obtain ⟨ad, cap, hb, hv⟩ := hx
    refine done_pure hr hn (v := .pointer (some ((ad.add (0 * 0 + 0)).add (a.toNat * j.size)))) ?_ ⟨ad, cap, hb, by rw [add_add']; simp⟩
    simp [execOp, h, hv, hy.1, Instr.indexAt, asIntOf, run_underlying h1, run_sizeOf_of h2, Instr.sureAddr, ho1, ho2]
  · rename_i i sz0 idx fld k a _ ex ey
    rw [ex] at hx; rw [ey] at hy
    simp only [Option.some.injEq] at hop; subst hop
    obtain ⟨ho1, ho2⟩ := ho
    obtain ⟨ad, cap, hb, hv⟩ := hx
    refine done_pure hr hn (v := .pointer (some ((ad.add (idx * sz0 + fld)).add (a.toNat * j.size)))) ?_ ⟨ad, cap, hb, by rw [add_add', Nat.add_assoc]⟩
    simp [execOp, h, hv, hy.1, Instr.indexAt, asIntOf, run_underlying h1, run_sizeOf_of h2, Instr.sureAddr, ho1, ho2]
  · rename_i l k a ex ey
    rw [ex] at hx; rw [ey] at hy
    simp only [Option.some.injEq] at hop; subst hop
    obtain ⟨ho1, ho2⟩ := ho
    have hx' := hx
    obtain ⟨ad, vs, hv, _⟩ := hx'
    rw [hv] at hx
    refine done_pure hr hn (v := .pointer (some (ad.add (a.toNat * j.size)))) ?_ (rp_drop hx _)
    simp [execOp, h, hv, hy.1, Instr.indexAt, asIntOf, run_underlying h1, run_sizeOf_of h2, Instr.sureAddr, ho1, ho2]
  · cases hop

theorem snd_idxS {t : TypeId} {x y : Operand} (h1 : P.underlying t = some .string) (h : o.op = .index t x y) : Sound P o (.idxS x y) := by
  intro ρ va hf w β res hp n rs r hd _ hr hn hop ho
  have hx := hd x (by simp [SOp.operands])
  have hy := hd y (by simp [SOp.operands])
  simp only [opFn] at hop
  split at hop
  case h_2 => cases hop
  rename_i s k a ex ey
  rw [ex] at hx; rw [ey] at hy
  simp only [Option.some.injEq] at hop; subst hop
  obtain ⟨ho1, ho2⟩ := ho
  have hlt : a.toNat < s.size := by omega
  refine done_pure hr hn (v := .int .u8 (sbyte s a.toNat)) ?_ ⟨rfl, trivial⟩
  have hb : s[a.toNat]? = some s[a.toNat] := getElem?_pos s a.toNat hlt
  have he : (s[a.toNat].toNat : Int) = sbyte s a.toNat := by
    unfold sbyte
    have hlt' : a.toNat < s.data.toList.length := by simpa using hlt
    rw [List.getD_eq_getElem?_getD, List.getElem?_eq_getElem hlt']
    rfl
  simp [execOp, h, hx.1, hy.1, Instr.index, asIntOf, run_underlying h1, ho1, hb, he]

theorem snd_idxA {t e : TypeId} {m : Nat} {d : TypeDesc} {j : TypeInfo} {x y : Operand} (h1 : P.underlying t = some (.array m e)) (h3 : P.underlying e = some d) (h2 : P.info? e = some j)
    (hj : isAggD d = false → j.size = 1) (h : o.op = .index t x y) : Sound P o (.idxA m (isAggD d) j.size x y) := by
  intro ρ va hf w β res hp n rs r hd _ hr hn hop ho
  have hx := hd x (by simp [SOp.operands])
  have hy := hd y (by simp [SOp.operands])
  simp only [opFn] at hop
  split at hop
  case h_2 => cases hop
  rename_i l k a ex ey
  rw [ex] at hx; rw [ey] at hy
  split at hop
  case isFalse => cases hop
  rename_i hll
  simp only [Option.some.injEq] at hop; subst hop
  obtain ⟨ho1, ho2⟩ := ho
  obtain ⟨vs, hv, hden⟩ := hx
  have hbound : a.toNat * j.size + j.size ≤ l.length := by
    rw [hll]
    have : a.toNat + 1 ≤ m := by omega
    have := Nat.mul_le_mul_right j.size this
    simpa [Nat.add_mul] using this
  obtain ⟨v, hv1, hv2⟩ := part_den (w := w) (off := a.toNat * j.size) h3 h2 hden (fun hb => by have := hj hb; omega)
  have hm : (if isAggD d = true then j.size else 1) = j.size := by
    split
    · rfl
    · rename_i hb; exact (hj (by simpa using hb)).symm
  rw [hm] at hv2
  refine done_pure hr hn (v := v) ?_ hv2
  simp [execOp, h, hv, hy.1, Instr.index, asIntOf, run_underlying h1, run_sizeOf_of h2, ho1, ho2, hv1]

theorem snd_extract {x : Operand} {i : Nat} (h : o.op = .extract x i) : Sound P o (.extract x i) := by
  intro ρ va hf w β res hp n rs r hd _ hr hn hop _
  have hx := hd x (by simp [SOp.operands])
  simp only [opFn] at hop
  split at hop
  case h_2 => cases hop
  rename_i l e
  rw [e] at hx
  split at hop
  case isFalse => cases hop
  rename_i hlt
  simp only [Option.some.injEq] at hop; subst hop
  obtain ⟨vs, hv, hden⟩ := hx
  obtain ⟨v, hv1, hv2⟩ := SV.denL_get _ _ hden i l[i] (by simp [hlt])
  refine done_pure hr hn (v := v) ?_ ?_
  · have : vs.toArray[i]? = some v := by simpa using hv1
    simp [execOp, h, hv, Instr.extract, this]
  · rw [List.getD_eq_getElem?_getD, List.getElem?_eq_getElem hlt]; exact hv2

theorem cvs_den {β : Env} {ρ : Operand → SV} {va : Operand → Value} : ∀ (xs : List Operand) (l : List CV), (∀ x ∈ xs, SV.Den β (ρ x) (va x)) → cvs ρ xs = some l → CV.DenL β l (xs.map va)
  | [], l, _, h => by simp only [cvs, Option.some.injEq] at h; subst h; trivial
  | x :: xs, l, hd, h => by
    simp only [cvs] at h
    split at h
    case h_2 => cases h
    rename_i c r e1 e2
    simp only [Option.some.injEq] at h; subst h
    have := hd x (by simp)
    rw [e1] at this
    exact ⟨this, cvs_den xs r (fun y hy => hd y (by simp [hy])) e2⟩

theorem snd_mkfn {f : Fn} {first caps : Array Operand} (h : o.op = .makeFunc f first caps) : Sound P o (.mkfn f first.toList caps.toList) := by
  intro ρ va hf w β res hp n rs r hd _ hr hn hop _
  simp only [opFn] at hop
  split at hop
  case h_2 => cases hop
  rename_i a b e1 e2
  simp only [Option.some.injEq] at hop; subst hop
  have d1 := cvs_den _ _ (fun x hx => hd x (by simp only [SOp.operands]; simp [hx])) e1
  have d2 := cvs_den _ _ (fun x hx => hd x (by simp only [SOp.operands]; simp [hx])) e2
  refine done_pure hr hn (v := .func f (first.map va) (caps.map va)) ?_ ⟨first.toList.map va, caps.toList.map va, ?_, d1, d2⟩
  · simp [execOp, h, Instr.makeFunc]
  · congr 1 <;> (apply Array.ext' ; simp)

end
end Sx

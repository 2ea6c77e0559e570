/- The engine's operations are sound, second part: stores. -/
import Derived.Test.YtbhefgajgdcajaaSxSnd1
set_option linter.unusedVariables false
set_option linter.unusedSimpArgs false
namespace Sx
open Go

theorem splice_get {vs : List Value} {off : Nat} {xs : List Value} (h : off + xs.length ≤ vs.length) (j : Nat) :
    (splice vs off xs)[j]? = if j < off then vs[j]? else if j < off + xs.length then xs[j - off]? else vs[j]? := by
  unfold splice
  rw [List.append_assoc, List.getElem?_append]
  simp only [List.length_take, Nat.min_eq_left (by omega : off ≤ vs.length)]
  split
  · rename_i hj; rw [List.getElem?_take_of_lt hj]
  · rename_i hj
    rw [List.getElem?_append]
    split
    · rename_i h2; rw [if_pos (by omega)]
    · rename_i h2
      rw [if_neg (by omega), List.getElem?_drop]
      congr 1
      omega

theorem denL_splice {β : Env} {l cs : List CV} {vs xs : List Value} {off : Nat} (h : CV.DenL β l vs) (hx : CV.DenL β cs xs) :
    CV.DenL β (spliceC l off cs) (splice vs off xs) := by
  unfold spliceC splice
  rw [CV.denL_length _ _ hx]
  exact CV.denL_append _ _ _ _ (CV.denL_append _ _ _ _ (CV.denL_take _ _ _ h) hx) (CV.denL_drop _ _ _ h)

theorem row_get (vs : List Value) (i sz j : Nat) (hj : j < sz) : ((vs.drop (i * sz)).take sz)[j]? = vs[i * sz + j]? := by
  rw [List.getElem?_take_of_lt hj, List.getElem?_drop]

theorem splice_row_same {vs xs : List Value} {idx sz fld : Nat} (h1 : fld + xs.length ≤ sz) (h2 : idx * sz + sz ≤ vs.length) :
    ((splice vs (idx * sz + fld) xs).drop (idx * sz)).take sz = splice ((vs.drop (idx * sz)).take sz) fld xs := by
  have hl : ((vs.drop (idx * sz)).take sz).length = sz := by simp; omega
  apply List.ext_getElem?
  intro j
  rw [splice_get (by omega)]
  by_cases hj : j < sz
  · rw [row_get _ _ _ _ hj, splice_get (by omega), row_get _ _ _ _ hj]
    by_cases c1 : j < fld
    · rw [if_pos (by omega), if_pos c1]
    · rw [if_neg (by omega), if_neg c1]
      by_cases c2 : j < fld + xs.length
      · rw [if_pos (by omega), if_pos c2]; congr 1; omega
      · rw [if_neg (by omega), if_neg c2]
  · rw [List.getElem?_eq_none (by simp; omega), if_neg (by omega), if_neg (by omega), List.getElem?_eq_none (by omega)]

theorem splice_row_ne {vs xs : List Value} {idx i sz fld : Nat} (h1 : fld + xs.length ≤ sz) (h2 : idx * sz + sz ≤ vs.length) (hne : i ≠ idx) :
    ((splice vs (idx * sz + fld) xs).drop (i * sz)).take sz = (vs.drop (i * sz)).take sz := by
  have hcase : i * sz + sz ≤ idx * sz ∨ idx * sz + sz ≤ i * sz := by
    rcases Nat.lt_or_gt_of_ne hne with h | h
    · left; have := Nat.mul_le_mul_right sz (Nat.succ_le_of_lt h); simpa [Nat.succ_mul] using this
    · right; have := Nat.mul_le_mul_right sz (Nat.succ_le_of_lt h); simpa [Nat.succ_mul] using this
  apply List.ext_getElem?
  intro j
  by_cases hj : j < sz
  · rw [row_get _ _ _ _ hj, row_get _ _ _ _ hj, splice_get (by omega)]
    rcases hcase with h | h
    · rw [if_pos (by omega)]
    · rw [if_neg (by omega), if_neg (by omega)]
  · have e1 : (splice vs (idx * sz + fld) xs).length = vs.length := splice_length (by omega)
    rw [List.getElem?_eq_none (by simp; omega), List.getElem?_eq_none (by simp; omega)]

section
variable {P : Program} {hf : Fr} {w : World} {β : Env} {res : Nat → Res} {h : Nat → Hp}

theorem rset_world (hr : Rel hf w β res h) {i sz idx fld : Nat} {p : Prop} {r : Res} {cs : List CV} {xs : List Value} (hg : rset (res i) sz idx fld cs = some (p, r)) (hp : p)
    (hxs : CV.DenL β cs xs) {x : Value} (hx : CV.Den β (.ptr i sz idx fld) x) :
    ∃ b off o o', x = .pointer (some ⟨b, off, none⟩) ∧ h i = single b o ∧ (∀ P : Program, (storeCells ⟨b, off, none⟩ xs).run P w = .ok () (setB w b o')) ∧ r.Sat hf β (β i) (single b o') := by
  obtain ⟨a, cap, hb, rfl⟩ := hx
  have hs := hr.sat i
  have hlx := CV.denL_length _ _ hxs
  have hpx := CV.denL_plain _ _ hxs
  rw [hb] at hs
  cases hres : res i with
  | gone => rw [hres] at hg; cases hg
  | rmap _ => rw [hres] at hg; cases hg
  | rmapP _ _ _ => rw [hres] at hg; cases hg
  | chan _ _ => rw [hres] at hg; cases hg
  | ro _ _ _ => rw [hres] at hg; cases hg
  | frz _ _ _ => rw [hres] at hg; cases hg
  | cells L =>
    rw [hres] at hg hs
    simp only [rset] at hg
    split at hg
    case isFalse => cases hg
    rename_i hle
    simp only [Option.some.injEq, Prod.mk.injEq] at hg
    obtain ⟨-, rfl⟩ := hg
    obtain ⟨b, vs, t, fr, e1, e2, e3, e4⟩ := hs
    simp only [Option.some.injEq, Bd.mk.injEq] at e1
    obtain ⟨rfl, rfl⟩ := e1
    have hlen := CV.denL_length _ _ e2
    have hblk := sub_single.1 (e3 ▸ hr.sub i)
    have hsl : (spliceC L (idx * sz + fld) cs).length = L.length := by
      unfold spliceC
      rw [List.length_append, List.length_append, List.length_take, List.length_drop]
      omega
    refine ⟨b, idx * sz + fld, _, .cells (splice vs (idx * sz + fld) xs).toArray t fr, ?_, e3, fun P => ?_, ?_⟩
    · rw [add_none]; simp
    · have := run_storeCells (P := P) (idx * sz + fld) xs w vs 0 hblk (by rw [hlen]; exact e4) hpx (by omega)
      simpa using this
    · refine ⟨b, splice vs (idx * sz + fld) xs, t, fr, ?_, denL_splice e2 hxs, rfl, ?_⟩
      · rw [hb, hsl]
      · rw [hsl]; exact e4
  | recs sz' k f =>
    rw [hres] at hg hs
    simp only [rset] at hg
    split at hg
    case isFalse => cases hg
    rename_i hle
    simp only [Option.some.injEq, Prod.mk.injEq] at hg
    obtain ⟨rfl, rfl⟩ := hg
    obtain ⟨rfl, hle⟩ := hle
    obtain ⟨h0, ad, cap', e1, e2, e3⟩ := hs
    simp only [Option.some.injEq, Bd.mk.injEq] at e1
    obtain ⟨rfl, rfl⟩ := e1
    have hmul : idx * sz' + sz' ≤ k * sz' := by
      have := Nat.mul_le_mul_right sz' (Nat.succ_le_of_lt hp)
      simpa [Nat.succ_mul] using this
    rcases e3 with e3 | ⟨b, vs, t, fr, e4, e5, e6, e7, e8⟩
    · omega
    · simp only [Option.some.injEq] at e4
      subst e4
      have hblk := sub_single.1 (e6 ▸ hr.sub i)
      refine ⟨b, idx * sz' + fld, _, .cells (splice vs (idx * sz' + fld) xs).toArray t fr, ?_, e6, fun P => ?_, ?_⟩
      · rw [add_none]; simp
      · have := run_storeCells (P := P) (idx * sz' + fld) xs w vs 0 hblk (by rw [e5]; exact e7) hpx (by omega)
        simpa using this
      · refine ⟨h0, some ⟨b, 0, none⟩, cap, hb, e2, .inr ⟨b, splice vs (idx * sz' + fld) xs, t, fr, rfl, ?_, rfl, e7, fun j hj => ?_⟩⟩
        · rw [splice_length (by omega)]; exact e5
        · by_cases hji : j = idx
          · subst hji
            show CV.DenL β (if j = j then _ else _) _
            rw [if_pos rfl, splice_row_same (by omega) (by omega)]
            exact denL_splice (e8 j hj) hxs
          · show CV.DenL β (if j = idx then _ else _) _
            rw [if_neg hji, splice_row_ne (by omega) (by omega) hji]
            exact e8 j hj

theorem snd_store {o : Oper} {t : TypeId} {a v : Operand} {i : TypeInfo} (ho : o.op = .store t a v) (hi : P.info? t = some i) : Sound P o (.store i.size a v) := by
  intro ρ va hf w β res hp n rs r hd hrs hr hn hop hob
  have ha := hd a (by simp [SOp.operands])
  have hv := hd v (by simp [SOp.operands])
  simp only [opFn] at hop
  split at hop
  case h_2 => cases hop
  rename_i nm sz idx fld cs ea ec
  rw [ea] at ha
  rw [← hrs nm (by simp [need, ea, SV.nm])] at hop
  split at hop
  case isFalse => cases hop
  rename_i hlen
  split at hop
  case h_2 => cases hop
  rename_i p r' hg
  simp only [Option.some.injEq] at hop; subst hop
  have hcs := sv_cells hv ec
  obtain ⟨b, off, ob, ob', hx, hpi, hrun, hsat⟩ := rset_world hr hg hob hcs ha
  refine done_write hr hn (o' := ob') hpi (v := undef) trivial (.inl ⟨?_, rfl⟩) hsat
  have hl2 := CV.denL_length _ _ hcs
  have : (storeVar t ⟨b, off, none⟩ (va v)).run P w = .ok () (setB w b ob') := by
    unfold storeVar
    have hsz : (va v).cells.size = i.size := by rw [← hlen, ← hl2]; simp
    simp [run_sizeOf_of hi, hsz, hrun]
  simp [execOp, ho, hx, Instr.storeAt, Instr.sureAddr, this]

end
end Sx

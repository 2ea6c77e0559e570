/- The engine's operations are sound, eleventh part: append. -/
import Derived.Test.YtbhefgajgdcajaaSxSnd10
set_option linter.unusedVariables false
set_option linter.unusedSimpArgs false
namespace Sx
open Go

theorem growBy_le (need : Nat) : ∀ (k c : Nat), 256 ≤ c → c ≤ 2 * need → Builtin.growBy need k c ≤ 2 * need
  | 0, c, _, h => h
  | k + 1, c, h1, h2 => by
    unfold Builtin.growBy
    split
    · exact h2
    · exact growBy_le need k _ (by omega) (by omega)

theorem slicecap_le {need old : Nat} (h : old < need) : Builtin.nextslicecap need old ≤ 2 * need := by
  unfold Builtin.nextslicecap
  split
  · omega
  · split
    · omega
    · exact growBy_le need 4 old (by omega) (by omega)

theorem zeroCells_toList {z : List Value} (hz : z ≠ []) (n : Nat) : (Builtin.zeroCells z.toArray n).toList = (List.replicate n z).flatten := by
  have := flatten_rep n z hz
  unfold Builtin.zeroCells
  simpa using this

section
variable {P : Program} {hf : Fr} {w : World} {β : Env} {res : Nat → Res} {h : Nat → Hp}

/-- A name takes over what another one holds. -/
theorem Rel.move (hr : Rel hf w β res h) {i n : Nat} {bd : Bd} {r : Res} (hn : β n = none) (hin : i ≠ n) (hb : β i = some bd) (hs : r.Sat hf β (some bd) (h i)) :
    Rel hf w (β.up n (some bd)) (up (up res i .gone) n r) (up (up h i (fun _ => none)) n (h i)) := by
  have hle : Env.le β (β.up n (some bd)) := Env.le_up hn
  refine ⟨hr.frame, fun j b o hj => ?_, fun j k b hjk hj => ?_, fun j b hj => ?_, fun j => ?_, hr.fzn.old, hr.fzn.new, hr.fzn.sub, fun j b hj => ?_⟩
  · by_cases hjn : j = n
    · subst hjn; rw [up_same] at hj; exact hr.sub i b o hj
    · rw [up_ne _ _ hjn] at hj
      by_cases hji : j = i
      · subst hji; rw [up_same] at hj; cases hj
      · rw [up_ne _ _ hji] at hj; exact hr.sub j b o hj
  · by_cases hjn : j = n
    · subst hjn
      rw [up_same] at hj
      rw [up_ne _ _ (Ne.symm hjk)]
      by_cases hki : k = i
      · subst hki; rw [up_same]
      · rw [up_ne _ _ hki]; exact hr.disj i k b (Ne.symm hki) hj
    · rw [up_ne _ _ hjn] at hj
      by_cases hji : j = i
      · subst hji; rw [up_same] at hj; exact absurd rfl hj
      · rw [up_ne _ _ hji] at hj
        by_cases hkn : k = n
        · subst hkn; rw [up_same]; exact hr.disj j i b hji hj
        · rw [up_ne _ _ hkn]
          by_cases hki : k = i
          · subst hki; rw [up_same]
          · rw [up_ne _ _ hki]; exact hr.disj j k b hjk hj
  · by_cases hjn : j = n
    · subst hjn; rw [up_same] at hj; exact hr.apart i b hj
    · rw [up_ne _ _ hjn] at hj
      by_cases hji : j = i
      · subst hji; rw [up_same] at hj; exact absurd rfl hj
      · rw [up_ne _ _ hji] at hj; exact hr.apart j b hj
  · by_cases hjn : j = n
    · subst hjn; rw [up_same, Env.up_same, up_same]; exact Res.sat_le hle hs
    · rw [up_ne _ _ hjn, Env.up_ne _ _ hjn, up_ne _ _ hjn]
      by_cases hji : j = i
      · subst hji; rw [up_same]; trivial
      · rw [up_ne _ _ hji, up_ne _ _ hji]; exact Res.sat_le hle (hr.sat j)
  · show β.mem b = none
    by_cases hjn : j = n
    · subst hjn; rw [up_same] at hj; exact hr.fzn.own i b hj
    · rw [up_ne _ _ hjn] at hj
      by_cases hji : j = i
      · subst hji; rw [up_same] at hj; exact absurd rfl hj
      · rw [up_ne _ _ hji] at hj; exact hr.fzn.own j b hj

/-- What append says when it must grow, and when it need not. -/
def AppRun (P : Program) (w : World) (ts : Array TypeId) (ty e : TypeId) (sz : Nat) (z : List Value) (base : Option Addr) (k c m : Nat) (x : Value) (A B : List Value) : Prop :=
    (k + m ≤ c → ∀ w', (match base with | some a => (storeCells (a.add (k * sz)) B).run P w | none => .ok () w) = .ok () w' →
      (Builtin.append_ ts ty #[.slice base k c, x]).run P w = .ok (.slice base (k + m) c) w') ∧
    (c < k + m → ∃ cap, k + m ≤ cap ∧ (Builtin.append_ ts ty #[.slice base k c, x]).run P w =
      .ok (.slice (some ⟨w.heap.size, 0, none⟩) (k + m) cap) (({ w with drawn := w.drawn + 1 } : World).alloc (.cells (A ++ B ++ (List.replicate (cap - (k + m)) z).flatten).toArray e)))

theorem run_append {t u e : TypeId} {d : TypeDesc} {i : TypeInfo} {z : List Value} {ts : Array TypeId} {ty : TypeId} {base : Option Addr} {k c m : Nat} {x : Value} {A B : List Value}
    (h0 : ts[0]? = some t) (h1 : ts[1]? = some u) (ht : P.underlying t = some (.slice e)) (hu : P.underlying u = some d) (hd : (∃ e', d = .slice e') ∨ d = .string)
    (hi : P.info? e = some i) (hz : zeroOf P e = some z) (hsz : 0 < i.size) (hby : 0 < i.bytes)
    (hlen : (Builtin.lenOf x).run P w = .ok m w) (hnew : (Builtin.firstCells i.size m x).run P w = .ok B.toArray w)
    (hold : ∀ w' : World, w'.heap = w.heap → (Builtin.firstCells i.size k (.slice base k c)).run P w' = .ok A.toArray w')
    (hnew' : ∀ w' : World, w'.heap = w.heap → (Builtin.firstCells i.size m x).run P w' = .ok B.toArray w')
    (hroom : (k + m) * i.bytes ≤ 140737488355328) : AppRun P w ts ty e i.size z base k c m x A B := by
  obtain ⟨i', zv, hi', _, hzl, hpl, hzlen, _, _⟩ := zeroOf_run (w := w) hz
  rw [hi] at hi'; cases hi'
  have hzne : z ≠ [] := by intro e0; rw [e0] at hzlen; simp at hzlen; omega
  have hzr : ∀ w' : World, (zeroValue e).run P w' = .ok zv w' := fun w' => by
    obtain ⟨_, zv', _, h2, _, _, _, h3, _⟩ := zeroOf_run (w := w') hz
    obtain ⟨_, zv'', _, h4, _, _, _, h5, _⟩ := zeroOf_run (w := w) hz
    unfold zeroOf at hz
    simp_all
  have hzc : zv.cells = z.toArray := by rw [← hzl]
  have hmax : IntKind.i64.max = 9223372036854775807 := by decide
  have hneed : k + m ≤ 140737488355328 := Nat.le_trans (Nat.le_mul_of_pos_right _ hby) hroom
  have hnotbig : ¬ (((k + m : Nat) : Int) > IntKind.i64.max) := by rw [hmax]; omega
  constructor
  · intro hle w' hst
    rcases hd with ⟨e', rfl⟩ | rfl
    all_goals
      unfold Builtin.append_
      simp only [h0, h1, List.getElem?_toArray, List.getElem?_cons_zero, List.getElem?_cons_succ, Sem.run_bind, run_underlying ht, run_underlying hu, Result.andThen_ok, run_sizeOf_of hi, Bool.false_eq_true, if_false, hlen,
        Sem.run_pure, hle, if_true, Bool.not_false, hnew]
      cases base with
      | none => simp only [Result.ok.injEq] at hst; simp [hst]
      | some a => simp only at hst; simp [hst]
  · intro hlt
    have hcapb : ¬ (Builtin.nextslicecap (k + m) c * i.bytes > 2 ^ 48) := by
      have h2 := slicecap_le hlt
      have h3 := Nat.mul_le_mul_right i.bytes h2
      rw [Nat.mul_assoc] at h3
      have : (2 : Nat) ^ 48 = 281474976710656 := by decide
      omega
    obtain ⟨cap, hcap⟩ : ∃ cap, cap = (Question.appendCap (k + m) c e).cut (w.tape w.drawn (Question.appendCap (k + m) c e)) := ⟨_, rfl⟩
    have hge : k + m ≤ cap := by rw [hcap]; simp only [Question.cut]; omega
    refine ⟨cap, hge, ?_⟩
    have hf : (Question.appendCap (k + m) c e).forced = false := rfl
    have hw : ({ w with drawn := w.drawn + 1 } : World).heap = w.heap := rfl
    have hch : (choose (Question.appendCap (k + m) c e)).run P w = .ok cap { w with drawn := w.drawn + 1 } := by
      rw [run_choose, hf, hcap]; rfl
    have htl : (Builtin.zeroCells z.toArray (cap - (k + m))) = ((List.replicate (cap - (k + m)) z).flatten).toArray := by
      rw [← zeroCells_toList hzne]
    rcases hd with ⟨e', rfl⟩ | rfl
    all_goals
      unfold Builtin.append_
      simp only [h0, h1, List.getElem?_toArray, List.getElem?_cons_zero, List.getElem?_cons_succ, Sem.run_bind, run_underlying ht, run_underlying hu, Result.andThen_ok, run_sizeOf_of hi, Bool.false_eq_true, if_false, hlen,
        Sem.run_pure, show ¬ (k + m ≤ c) by omega, if_true, Bool.not_false, hnotbig, false_and, hcapb, typeInfo, run_program, hi, hch, run_askRoom, hold _ hw, hnew' _ hw, hzr, hzc, htl, newRow, run_newObj]
      simp
      rfl

/-- The same, where noughts come. -/
theorem run_appendZ {t u e : TypeId} {d : TypeDesc} {i : TypeInfo} {z : List Value} {ts : Array TypeId} {ty : TypeId} {base : Option Addr} {k c m : Nat} {kx : IntKind} {a : Int} {A : List Value}
    (h0 : ts[0]? = some t) (h1 : ts[1]? = some u) (ht : P.underlying t = some (.slice e)) (hu : P.underlying u = some d) (hd : ∃ k, d = .int k)
    (hi : P.info? e = some i) (hz : zeroOf P e = some z) (hsz : 0 < i.size) (hby : 0 < i.bytes)
    (ha : 0 ≤ a) (hm : m = a.toNat)
    (hold : ∀ w' : World, w'.heap = w.heap → (Builtin.firstCells i.size k (.slice base k c)).run P w' = .ok A.toArray w')
    (hroom : (k + m) * i.bytes ≤ 140737488355328) : AppRun P w ts ty e i.size z base k c m (.int kx a) A (List.replicate m z).flatten := by
  obtain ⟨i', zv, hi', _, hzl, hpl, hzlen, _, _⟩ := zeroOf_run (w := w) hz
  rw [hi] at hi'; cases hi'
  have hzne : z ≠ [] := by intro e0; rw [e0] at hzlen; simp at hzlen; omega
  have hzr : ∀ w' : World, (zeroValue e).run P w' = .ok zv w' := fun w' => by
    obtain ⟨_, zv', _, h2, _, _, _, h3, _⟩ := zeroOf_run (w := w') hz
    obtain ⟨_, zv'', _, h4, _, _, _, h5, _⟩ := zeroOf_run (w := w) hz
    unfold zeroOf at hz
    simp_all
  have hzc : zv.cells = z.toArray := by rw [← hzl]
  have hmax : IntKind.i64.max = 9223372036854775807 := by decide
  have hneed : k + m ≤ 140737488355328 := Nat.le_trans (Nat.le_mul_of_pos_right _ hby) hroom
  have hnotbig : ¬ (((k + m : Nat) : Int) > IntKind.i64.max) := by rw [hmax]; omega
  have hle48 : a * i.bytes ≤ 140737488355328 := by
    have h2 : m * i.bytes ≤ (k + m) * i.bytes := Nat.mul_le_mul_right _ (by omega)
    have h3 : ((m * i.bytes : Nat) : Int) ≤ 140737488355328 := by omega
    rw [Int.natCast_mul, hm, Int.toNat_of_nonneg ha] at h3
    exact h3
  have hwa : IntKind.i64.wrap a = a := inI64_wrap ⟨by omega, by omega⟩
  have e48 : (2 : Int) ^ 48 = 281474976710656 := by decide
  have hbig : ¬ (281474976710656 < a * (i.bytes : Int)) := by omega
  have hneg : ¬ a < 0 := by omega
  have hint : ∀ w' : World, (asInt (.int kx a)).run P w' = .ok a w' := fun w' => by simp [asInt, asIntOf]
  have happ : ∀ w' : World, ((if m * i.size = 0 then pure #[] else do pure (Builtin.zeroCells (← zeroValue e).cells m)) : Sem (Array Value)).run P w' = .ok ((List.replicate m z).flatten).toArray w' := fun w' => by
    by_cases h : m * i.size = 0
    · have : m = 0 := by rcases Nat.mul_eq_zero.1 h with h | h <;> omega
      subst this
      simp
    · rw [if_neg h]
      simp [hzr, hzc, ← zeroCells_toList hzne]
  obtain ⟨kd, rfl⟩ := hd
  constructor
  · intro hle w' hst
    unfold Builtin.append_
    simp only [h0, h1, Sem.run_bind, run_underlying ht, run_underlying hu, Result.andThen_ok, run_sizeOf_of hi, Bool.false_eq_true, if_false, hint, hwa, hneg, e48, hbig, GT.gt,
      Sem.run_pure, hle, if_true, Bool.not_true, ← hm, typeInfo, run_program, hi, happ, List.getElem?_toArray, List.getElem?_cons_zero, List.getElem?_cons_succ]
    cases base with
    | none => simp only [Result.ok.injEq] at hst; simp [hst]
    | some a => simp only at hst; simp [hst]
  · intro hlt
    have hcapb : ¬ (Builtin.nextslicecap (k + m) c * i.bytes > 2 ^ 48) := by
      have h2 := slicecap_le hlt
      have h3 := Nat.mul_le_mul_right i.bytes h2
      rw [Nat.mul_assoc] at h3
      have : (2 : Nat) ^ 48 = 281474976710656 := by decide
      omega
    obtain ⟨cap, hcap⟩ : ∃ cap, cap = (Question.appendCap (k + m) c e).cut (w.tape w.drawn (Question.appendCap (k + m) c e)) := ⟨_, rfl⟩
    have hge : k + m ≤ cap := by rw [hcap]; simp only [Question.cut]; omega
    refine ⟨cap, hge, ?_⟩
    have hf : (Question.appendCap (k + m) c e).forced = false := rfl
    have hw : ({ w with drawn := w.drawn + 1 } : World).heap = w.heap := rfl
    have hch : (choose (Question.appendCap (k + m) c e)).run P w = .ok cap { w with drawn := w.drawn + 1 } := by
      rw [run_choose, hf, hcap]; rfl
    have htl : (Builtin.zeroCells z.toArray (cap - (k + m))) = ((List.replicate (cap - (k + m)) z).flatten).toArray := by
      rw [← zeroCells_toList hzne]
    have hnotbig' : ¬ (IntKind.i64.max < ((k + m : Nat) : Int)) := hnotbig
    have hcapb' : ¬ (2 ^ 48 < Builtin.nextslicecap (k + m) c * i.bytes) := hcapb
    unfold Builtin.append_
    simp only [h0, h1, Sem.run_bind, run_underlying ht, run_underlying hu, Result.andThen_ok, run_sizeOf_of hi, Bool.false_eq_true, if_false, hint, hwa, hneg, e48, hbig, GT.gt,
      Sem.run_pure, show ¬ (k + m ≤ c) by omega, if_true, Bool.not_true, ← hm, hnotbig', false_and, hcapb', typeInfo, run_program, hi, hch, run_askRoom, hold _ hw, happ, hzr, hzc, htl, newRow, run_newObj, List.getElem?_toArray, List.getElem?_cons_zero, List.getElem?_cons_succ]
    simp
    rfl

theorem Rel.drewAlloc (hr : Rel hf w β res h) {n : Nat} {bd : Bd} {r : Res} {o : Obj} (hn : β n = none)
    (hs : r.Sat hf (β.up n (some bd)) (some bd) (single w.heap.size o)) :
    Rel hf (({ w with drawn := w.drawn + 1 } : World).alloc o) (β.up n (some bd)) (up res n r) (up h n (single w.heap.size o)) :=
  (hr.heap_eq (w' := { w with drawn := w.drawn + 1 }) rfl).alloc hn hs

theorem drewAlloc_ext (w : World) (o : Obj) : Ext w (({ w with drawn := w.drawn + 1 } : World).alloc o) := ⟨rfl, rfl, rfl, by simp [World.alloc]⟩

/-- The rows of a fresh block, the old ones, then the new ones. -/
theorem rows_join {sz k m : Nat} {f g : Nat → List CV} {A B C : List Value} (hA : RowsAt w β sz k f A) (hB : RowsAt w β sz m g B) (j : Nat) (hj : j < k + m) :
    CV.DenL β (if j < k then f j else g (j - k)) (((A ++ B ++ C).drop (j * sz)).take sz) := by
  have hmul : ∀ {x y : Nat}, x < y → x * sz + sz ≤ y * sz := fun {x y} hxy => by
    have := Nat.mul_le_mul_right sz (Nat.succ_le_of_lt hxy)
    simpa [Nat.succ_mul] using this
  have hlA := hA.len
  have hlB := hB.len
  by_cases hjk : j < k
  · rw [if_pos hjk]
    have := hmul hjk
    have e : (((A ++ B ++ C).drop (j * sz)).take sz) = ((A.drop (j * sz)).take sz) := by
      rw [List.append_assoc, List.drop_append_of_le_length (by omega), List.take_append_of_le_length (by simp; omega)]
    rw [e]; exact hA.den j hjk
  · rw [if_neg hjk]
    have h1 := hmul (show j - k < m by omega)
    have h2 : j * sz = k * sz + (j - k) * sz := by rw [← Nat.add_mul]; congr 1; omega
    have e : (((A ++ B ++ C).drop (j * sz)).take sz) = ((B.drop ((j - k) * sz)).take sz) := by
      rw [List.append_assoc, h2, ← List.drop_drop, show (A ++ (B ++ C)).drop (k * sz) = B ++ C by rw [← hlA]; simp]
      rw [List.drop_append_of_le_length (by omega), List.take_append_of_le_length (by simp; omega)]
    rw [e]; exact hB.den (j - k) (by omega)

/-- How an append runs, whatever it appends to. -/
def AppAll (P : Program) (w : World) (ts : Array TypeId) (ty e : TypeId) (i : TypeInfo) (z : List Value) (m : Nat) (x : Value) (V : List Value) : Prop :=
  ∀ (base : Option Addr) (k c : Nat) (A : List Value), (∀ w' : World, w'.heap = w.heap → (Builtin.firstCells i.size k (.slice base k c)).run P w' = .ok A.toArray w') → (k + m) * i.bytes ≤ 140737488355328 →
    AppRun P w ts ty e i.size z base k c m x A V

theorem append_fresh {e : TypeId} {i : TypeInfo} {z : List Value} {ts : Array TypeId} {ty : TypeId} {base : Option Addr} {m n : Nat} {x : Value} {g : Nat → List CV} {V : List Value}
    (hr : Rel hf w β res h) (hn : β n = none)
    (hi : P.info? e = some i) (hz : zeroOf P e = some z) (hsz : 0 < i.size) (hroom : m * i.bytes ≤ 140737488355328)
    (hV1 : RowsAt w β i.size m g V) (happ : AppAll P w ts ty e i z m x V) :
    ∃ v w' β' h', (Builtin.append_ ts ty #[.slice base 0 0, x]).run P w = .ok v w' ∧ SV.Den β' (.cv (.slc n i.size 0 m none)) v ∧ (∀ j, j ≠ n → β' j = β j) ∧ Env.le β β' ∧
      Rel hf w' β' (up res n (.recs i.size m g)) h' ∧ Ext w w' := by
  have hold : ∀ w' : World, w'.heap = w.heap → (Builtin.firstCells i.size 0 (.slice base 0 0)).run P w' = .ok (List.toArray []) w' := fun w' _ => by
    cases base with
    | none => simp [Builtin.firstCells]
    | some a => simp [Builtin.firstCells, loadCells, loadCellsFrom]
  obtain ⟨r1, r2⟩ := happ base 0 0 [] hold (by simpa using hroom)
  rcases Nat.eq_zero_or_pos m with hm0 | hm0
  · subst hm0
    have hVnil : V = [] := by have := hV1.len; simpa using this
    subst hVnil
    have hrun := r1 (by omega) w (by cases base <;> simp [storeCells])
    refine ⟨_, w, β.up n (some ⟨none, 0⟩), h, hrun, ?_, fun j hj => Env.up_ne _ _ hj, Env.le_up hn, ?_, Ext.refl w⟩
    · exact ⟨none, 0, Env.up_same _ _ _, by simp, hsz, (fun m hm => by cases hm), base, by simp, (fun hlt => by simp at hlt)⟩
    · exact hr.name hn ⟨hsz, none, 0, rfl, by simp, .inl rfl⟩
  · obtain ⟨cap, hcap, hrun⟩ := r2 (by omega)
    simp only [Nat.zero_add, List.nil_append] at hcap hrun
    have hzl : z.length = i.size := by
      obtain ⟨i', _, hi', _, _, _, h5, _⟩ := zeroOf_run (w := w) hz
      rw [hi] at hi'; cases hi'; exact h5
    have hlen : (V ++ (List.replicate (cap - m) z).flatten).length = cap * i.size := by
      simp [hV1.len, hzl]
      rw [← Nat.add_mul]; congr 1; omega
    refine ⟨_, _, β.up n (some ⟨some ⟨w.heap.size, 0, none⟩, cap * i.size⟩), _, hrun, ?_, fun j hj => Env.up_ne _ _ hj, Env.le_up hn,
      hr.drewAlloc hn ⟨hsz, some ⟨w.heap.size, 0, none⟩, cap * i.size, rfl, Nat.mul_le_mul_right _ hcap, .inr ⟨w.heap.size, _, e, (0, 0), rfl, hlen, rfl, unfr0 _, fun j hj => ?_⟩⟩, drewAlloc_ext _ _⟩
    · refine ⟨_, _, Env.up_same _ _ _, by simpa using Nat.mul_le_mul_right _ hcap, hsz, (fun m hm => by cases hm), some ⟨w.heap.size, 0, none⟩, ?_, (fun _ => ⟨_, rfl, by simp [add_none]⟩)⟩
      simp [Nat.mul_div_cancel _ hsz]
    · have hA : RowsAt w β i.size 0 g [] := ⟨by simp, fun j hj => by omega⟩
      have := rows_join (C := (List.replicate (cap - m) z).flatten) hA hV1 j (by omega)
      simp at this
      exact CV.denL_le (Env.le_up hn) _ _ this

theorem svDest_none {sz : Nat} {v : SV} {rs : List (Nat × Res)} {a : Nat} {p : Prop} {f : Nat → List CV} {x : Value} (h : svDest sz v rs = some (none, a, p, f)) (hx : SV.Den β v x) : ∃ base, x = .slice base 0 0 := by
  unfold svDest at h
  split at h
  · rw [hx.1]; exact ⟨none, rfl⟩
  · split at h
    case isFalse => cases h
    split at h
    · obtain ⟨ad, cap, _, _, _, _, ad', hv, _⟩ := hx
      exact ⟨ad', hv⟩
    · split at h
      · simp at h
      · split at h
        · simp at h
        · cases h
      · cases h
    · cases h
  · split at h
    case isFalse => cases h
    split at h
    · obtain ⟨_, ad, cap, hv, _, hmc, _⟩ := hx
      have := hmc 0 rfl
      subst this
      exact ⟨ad, hv⟩
    · cases h
  · cases h

/-- A row that a name holds, as the appends take it. -/
theorem svDest_some (hr : Rel hf w β res h) {sz i k : Nat} {v : SV} {rs : List (Nat × Res)} {p : Prop} {f : Nat → List CV} (hs : svDest sz v rs = some (some i, k, p, f)) (hp : p) (hri : ∀ j ∈ v.nm, res j = lk rs j) {x : Value}
    (hx : SV.Den β v x) : ∃ ad cap ad', β i = some ⟨ad, cap⟩ ∧ x = .slice ad' k (cap / sz) ∧ k ≤ cap / sz ∧ (0 < cap / sz → ∃ b vs t fr, ad = some ⟨b, 0, none⟩ ∧ ad' = some ⟨b, 0, none⟩ ∧ vs.length = cap ∧
      h i = single b (.cells (List.toArray vs) t fr) ∧ Unfr fr cap ∧ ∀ j, j < k → CV.DenL β (f j) ((vs.drop (j * sz)).take sz)) := by
  unfold svDest at hs
  split at hs
  · simp at hs
  · split at hs
    case isFalse => cases hs
    rename_i i' sz' lo n mc hsz
    subst hsz
    split at hs
    · simp at hs
    · have hri' := hri i' (by simp [SV.nm])
      rw [← hri'] at hs
      obtain ⟨ad, cap, hb, hle, hpos, hmc, ad', hv, haddr⟩ := hx
      have hsat := hr.sat i'
      simp only [Option.getD_none, Nat.sub_zero, Nat.zero_mul, Nat.zero_add] at hle hv haddr
      have hkc : n ≤ cap / sz' := (Nat.le_div_iff_mul_le hpos).2 hle
      split at hs
      · rename_i l hres
        simp only [Option.some.injEq, Prod.mk.injEq] at hs
        obtain ⟨rfl, rfl, rfl, rfl⟩ := hs
        rw [hres] at hsat
        obtain ⟨b, vs, t, fr, e1, e2, e3, e4⟩ := hsat
        rw [hb] at e1
        simp only [Option.some.injEq, Bd.mk.injEq] at e1
        obtain ⟨rfl, rfl⟩ := e1
        refine ⟨_, _, ad', hb, hv, hkc, fun hlt => ?_⟩
        obtain ⟨a, ha, ha'⟩ := haddr hlt
        simp only [Option.some.injEq] at ha; subst ha
        refine ⟨b, vs, t, fr, rfl, by rw [ha']; simp [add_none], CV.denL_length _ _ e2, e3, e4, fun j hj => CV.denL_take _ _ _ (CV.denL_drop _ _ _ e2)⟩
      · rename_i sz'' m f' hres
        split at hs
        case isFalse => cases hs
        rename_i hsz; subst hsz
        simp only [Option.some.injEq, Prod.mk.injEq] at hs
        obtain ⟨rfl, rfl, rfl, rfl⟩ := hs
        rw [hres] at hsat
        obtain ⟨h0, ad2, cap2, e1, e2, e3⟩ := hsat
        rw [hb] at e1
        simp only [Option.some.injEq, Bd.mk.injEq] at e1
        obtain ⟨rfl, rfl⟩ := e1
        refine ⟨ad, cap, ad', hb, hv, hkc, fun hlt => ?_⟩
        obtain ⟨a, ha, ha'⟩ := haddr hlt
        rcases e3 with e3 | ⟨b, vs, t, fr, e4, e5, e6, e7, e8⟩
        · subst e3; simp at hlt
        · rw [ha] at e4
          simp only [Option.some.injEq] at e4; subst e4
          exact ⟨b, vs, t, fr, ha, by rw [ha']; simp [add_none], e5, e6, e7, fun j hj => e8 j (by omega)⟩
      · cases hs
    · cases hs
  · split at hs
    case isFalse => cases hs
    split at hs
    · simp at hs
    · cases hs
  · cases hs

theorem append_core {run : Result Next} {e : TypeId} {i : TypeInfo} {z : List Value} {ts : Array TypeId} {ty : TypeId} {s : SV} {xs x : Value} {n : Nat} {rs : List (Nat × Res)} {q : Prop} {m : Nat} {g : Nat → List CV} {r : OpRes}
    (hr : Rel hf w β res h) (hn : β n = none) (hi : P.info? e = some i) (hz : zeroOf P e = some z) (hsz : 0 < i.size) (hrs : ∀ j ∈ s.nm, res j = lk rs j) (hs : SV.Den β s xs)
    (hexec : ∀ v w', (Builtin.append_ ts ty #[xs, x]).run P w = .ok v w' → run = .ok (.value v) w')
    (hsrc : q → ∃ V, RowsAt w β i.size m g V ∧ AppAll P w ts ty e i z m x V)
    (hop : appFn i.size i.bytes (svDest i.size s rs) (svRoom i.size s rs) q m g n = some r) (ho : r.obl) :
    ∃ v w' β' h', Done P hf run w β res h n r v w' β' h' := by
  unfold appFn at hop
  split at hop
  · rename_i a0 p0 f0 e1
    simp only [Option.some.injEq] at hop; subst hop
    obtain ⟨hq, hroom⟩ := ho
    obtain ⟨V, hV1, happ⟩ := hsrc hq
    obtain ⟨base, hvs⟩ := svDest_none e1 hs
    obtain ⟨v, w', β', h', k1, k2, k3, k4, k5, k6⟩ := append_fresh (base := base) hr hn hi hz hsz hroom hV1 happ
    rw [← hvs] at k1
    exact ⟨v, w', β', h', ⟨.inl (hexec _ _ k1), k2, k3, k4, fun hni => (hni (by simp)).elim, k5, k6⟩⟩
  · rename_i i0 k p f e1
    simp only [Option.some.injEq] at hop; subst hop
    obtain ⟨hpp, hq, hroom⟩ := ho
    obtain ⟨V, hV1, happ⟩ := hsrc hq
    obtain ⟨ad, cap, ad', hb, hvs, hkc, hblk⟩ := svDest_some hr e1 hpp hrs hs
    have hin : i0 ≠ n := fun e => by rw [e, hn] at hb; cases hb
    have hswap : ∀ r' : Res, up (up res n r') i0 .gone = upds res [(i0, .gone), (n, r')] := fun r' => by
      funext j
      simp only [upds, up]
      by_cases h1 : j = i0 <;> by_cases h2 : j = n <;> simp_all
    rcases Nat.eq_zero_or_pos (cap / i.size) with hc0 | hc0
    · have hk0 : k = 0 := by omega
      subst hk0
      rw [hc0] at hvs
      simp only [Nat.zero_add] at hroom
      obtain ⟨v, w', β', h', k1, k2, k3, k4, k5, k6⟩ := append_fresh (base := ad') hr hn hi hz hsz hroom hV1 happ
      rw [← hvs] at k1
      have k5' := k5.drop i0
      rw [hswap] at k5'
      have hfe : (fun j => if j < 0 then f j else g (j - 0)) = g := by funext j; simp
      refine ⟨v, w', β', h', ⟨.inl (hexec _ _ k1), ?_, k3, k4, fun hni => (hni (by simp)).elim, ?_, k6⟩⟩
      · simp only [Nat.zero_add]; exact k2
      · simp only [Nat.zero_add, hfe]; exact k5'
    · obtain ⟨b, vs, tt, fr, had, had', hvl, hhi, hun, hden⟩ := hblk hc0
      subst had; subst had'
      have hobj := sub_single.1 (hhi ▸ hr.sub i0)
      have hkcap : k * i.size ≤ cap := by
        have := Nat.mul_le_mul_right i.size hkc
        exact Nat.le_trans this (Nat.div_mul_le_self _ _)
      have hold : ∀ w' : World, w'.heap = w.heap → (Builtin.firstCells i.size k (.slice (some ⟨b, 0, none⟩) k (cap / i.size))).run P w' = .ok (vs.take (k * i.size)).toArray w' := fun w' hw' => by
        simp only [Builtin.firstCells]
        refine Sx.run_loadCells (by simp; omega) (fun j hj => ?_)
        rw [List.getElem?_take_of_lt hj, add_none, cell_block (by rw [hw']; exact hobj)]
        simp
      have hA : RowsAt w β i.size k f (vs.take (k * i.size)) := ⟨by simp; omega, fun j hj => by
        have hb2 : j * i.size + i.size ≤ k * i.size := by
          have := Nat.mul_le_mul_right i.size (Nat.succ_le_of_lt hj)
          simpa [Nat.succ_mul] using this
        have e : (((vs.take (k * i.size)).drop (j * i.size)).take i.size) = ((vs.drop (j * i.size)).take i.size) := by
          rw [List.drop_take, List.take_take]
          congr 1
          omega
        rw [e]; exact hden j hj⟩
      obtain ⟨r1, r2⟩ := happ (some ⟨b, 0, none⟩) k (cap / i.size) _ hold hroom
      rw [← hvs] at r1 r2
      rcases Nat.lt_or_ge (cap / i.size) (k + m) with hlt | hge
      · -- it grows
        obtain ⟨ncap, hncap, hrun⟩ := r2 hlt
        have hzl : z.length = i.size := by
          obtain ⟨i', _, hi', _, _, _, h5, _⟩ := zeroOf_run (w := w) hz
          rw [hi] at hi'; cases hi'; exact h5
        have hlen : (vs.take (k * i.size) ++ V ++ (List.replicate (ncap - (k + m)) z).flatten).length = ncap * i.size := by
          simp [hV1.len, hzl]
          rw [Nat.min_eq_left (by omega), ← Nat.add_mul, ← Nat.add_mul]
          congr 1; omega
        have hrel := hr.drewAlloc (n := n) (bd := ⟨some ⟨w.heap.size, 0, none⟩, ncap * i.size⟩) (r := .recs i.size (k + m) (fun j => if j < k then f j else g (j - k)))
          (o := .cells (vs.take (k * i.size) ++ V ++ (List.replicate (ncap - (k + m)) z).flatten).toArray e) hn
          ⟨hsz, some ⟨w.heap.size, 0, none⟩, ncap * i.size, rfl, Nat.mul_le_mul_right _ hncap, .inr ⟨w.heap.size, _, e, (0, 0), rfl, hlen, rfl, unfr0 _, fun j hj => CV.denL_le (Env.le_up hn) _ _ (rows_join hA hV1 j hj)⟩⟩
        have hrel' := hrel.drop i0
        rw [hswap] at hrel'
        refine ⟨_, _, _, _, ⟨.inl (hexec _ _ hrun), ?_, fun j hj => Env.up_ne _ _ hj, Env.le_up hn, fun hni => (hni (by simp)).elim, hrel', drewAlloc_ext _ _⟩⟩
        refine ⟨_, _, Env.up_same _ _ _, by simpa using Nat.mul_le_mul_right _ hncap, hsz, (fun m hm => by cases hm), some ⟨w.heap.size, 0, none⟩, ?_, (fun _ => ⟨_, rfl, by simp [add_none]⟩)⟩
        simp [Nat.mul_div_cancel _ hsz]
      · -- in place
        have hfit : (k + m) * i.size ≤ cap := Nat.le_trans (Nat.mul_le_mul_right i.size hge) (Nat.div_mul_le_self _ _)
        have hlV := hV1.len
        rw [Nat.add_mul] at hfit
        have hst := run_storeCells (P := P) (k * i.size) V w vs 0 hobj (by rw [hvl]; exact hun) (hV1.plain hsz) (by omega)
        simp only [Nat.add_zero] at hst
        have hrun := r1 hge _ (by simp only [add_none, Nat.zero_add]; exact hst)
        -- the block, written; then the name moved
        have hsplice : splice vs (k * i.size) V = vs.take (k * i.size) ++ V ++ vs.drop (k * i.size + V.length) := rfl
        have hsat : (Res.recs i.size (k + m) (fun j => if j < k then f j else g (j - k))).Sat hf β (β i0) (single b (.cells (splice vs (k * i.size) V).toArray tt fr)) := by
          refine ⟨hsz, some ⟨b, 0, none⟩, cap, hb, by rw [Nat.add_mul]; exact hfit, .inr ⟨b, _, tt, fr, rfl, ?_, rfl, hun, fun j hj => ?_⟩⟩
          · rw [splice_length (by omega)]; exact hvl
          · rw [hsplice]; exact rows_join hA hV1 j hj
        have hrel := hr.write (i := i0) hhi hsat
        have hrel2 := hrel.move (i := i0) (n := n) (bd := ⟨some ⟨b, 0, none⟩, cap⟩) (r := .recs i.size (k + m) (fun j => if j < k then f j else g (j - k))) hn hin hb (by rw [up_same, ← hb]; exact hsat)
        have hres : up (up (up res i0 (.recs i.size (k + m) (fun j => if j < k then f j else g (j - k)))) i0 .gone) n (.recs i.size (k + m) (fun j => if j < k then f j else g (j - k))) =
            upds res [(i0, .gone), (n, .recs i.size (k + m) (fun j => if j < k then f j else g (j - k)))] := by
          funext j
          simp only [upds, up]
          by_cases h1 : j = i0 <;> by_cases h2 : j = n <;> simp_all
        rw [hres] at hrel2
        refine ⟨_, _, _, _, ⟨.inl (hexec _ _ hrun), ?_, fun j hj => Env.up_ne _ _ hj, Env.le_up hn, fun hni => (hni (by simp)).elim, hrel2, setB_ext _ _ _⟩⟩
        refine ⟨_, _, Env.up_same _ _ _, by simpa [Nat.add_mul] using hfit, hsz, (fun m hm => by cases hm), some ⟨b, 0, none⟩, ?_, (fun _ => ⟨_, rfl, by simp [add_none]⟩)⟩
        simp
  · split at hop
    case h_2 => cases hop
    rename_i i0 k cc N f e3
    simp only [Option.some.injEq] at hop; subst hop
    obtain ⟨hq, hroom1, hroom2, hroom⟩ := ho
    obtain ⟨V, hV1, happ⟩ := hsrc hq
    unfold svRoom at e3
    split at e3
    case h_2 => cases e3
    rename_i i1 sz' lo k' mc es
    split at e3
    case isFalse => cases e3
    rename_i hsz'; subst hsz'
    split at e3
    case h_2 => cases e3
    rename_i cc'
    rw [← hrs i1 (by simp [SV.nm])] at e3
    split at e3
    case h_2 => cases e3
    rename_i sz'' N' f' hres
    split at e3
    case isFalse => cases e3
    rename_i hsz''; subst hsz''
    simp only [Option.some.injEq, Prod.mk.injEq] at e3
    obtain ⟨rfl, rfl, rfl, rfl, rfl⟩ := e3
    have hsat := hr.sat i1
    rw [hres] at hsat
    obtain ⟨h0', ad2, cap2, f1, f2, f3⟩ := hsat
    obtain ⟨ad, cap, hb, hle, hpos, hmc, ad', hvs, haddr⟩ := hs
    rw [hb] at f1
    simp only [Option.some.injEq, Bd.mk.injEq] at f1
    obtain ⟨rfl, rfl⟩ := f1
    simp only [Option.getD_some, Nat.zero_mul, Nat.zero_add] at hvs haddr hle
    have hmc' := hmc cc' rfl
    simp only [Nat.zero_add] at hmc'
    rcases Nat.eq_zero_or_pos cc' with hc0 | hc0
    · -- no room at all: nothing comes
      subst hc0
      have hk0 : k' = 0 := by omega
      have hm0 : m = 0 := by omega
      subst hk0; subst hm0
      have hVnil : V = [] := by have := hV1.len; simpa using this
      subst hVnil
      have hold : ∀ w' : World, w'.heap = w.heap → (Builtin.firstCells i.size 0 (.slice ad' 0 0)).run P w' = .ok (List.toArray []) w' := fun w' _ => by
        cases ad' with
        | none => simp [Builtin.firstCells]
        | some a => simp [Builtin.firstCells, loadCells, loadCellsFrom]
      obtain ⟨r1, r2⟩ := happ ad' 0 0 [] hold hroom
      have hrun := r1 (by omega) w (by cases ad' <;> simp [storeCells])
      rw [← hvs] at hrun
      refine ⟨_, w, β, h, ⟨.inl (hexec _ _ hrun), ?_, fun _ _ => rfl, Env.le_refl β, fun _ => hn, hr.same ?_, Ext.refl w⟩⟩
      · exact ⟨ad, cap, hb, by simp, hpos, hmc, ad', by simpa using hvs, by simp⟩
      · refine ⟨h0', ad, cap, hb, f2, ?_⟩
        have hfe : (fun j => if 0 ≤ j ∧ j < 0 + 0 then g (j - 0) else f' j) = f' := by funext j; simp
        rw [hfe]; exact f3
    · obtain ⟨a, had, had'⟩ := haddr hc0
      rcases f3 with f3 | ⟨b, vs, tt, fr, had2, hvl, hhi, hun, hden⟩
      · exfalso
        subst f3
        have := hmc'.2
        have : 1 * 1 ≤ cc' * i.size := Nat.mul_le_mul hc0 hsz
        omega
      · rw [had2] at had
        simp only [Option.some.injEq] at had; subst had
        subst had2; subst had'
        simp only [add_none, Nat.zero_add] at hvs
        have hobj := sub_single.1 (hhi ▸ hr.sub i1)
        have hkcap : k' * i.size ≤ cap := by omega
        have hold : ∀ w' : World, w'.heap = w.heap → (Builtin.firstCells i.size k' (.slice (some ⟨b, 0, none⟩) k' cc')).run P w' = .ok (vs.take (k' * i.size)).toArray w' := fun w' hw' => by
          simp only [Builtin.firstCells]
          refine Sx.run_loadCells (by simp; omega) (fun j hj => ?_)
          rw [List.getElem?_take_of_lt hj, add_none, cell_block (by rw [hw']; exact hobj)]
          simp
        obtain ⟨r1, r2⟩ := happ (some ⟨b, 0, none⟩) k' cc' _ hold hroom
        rw [← hvs] at r1 r2
        have hfit : (k' + m) * i.size ≤ cap := Nat.le_trans (Nat.mul_le_mul_right i.size hroom1) hmc'.2
        have hlV := hV1.len
        rw [Nat.add_mul] at hfit
        have hst := run_storeCells (P := P) (k' * i.size) V w vs 0 hobj (by rw [hvl]; exact hun) (hV1.plain hsz) (by omega)
        simp only [Nat.add_zero] at hst
        have hrun := r1 hroom1 _ (by simp only [add_none, Nat.zero_add]; exact hst)
        have hsat : (Res.recs i.size N' (fun j => if k' ≤ j ∧ j < k' + m then g (j - k') else f' j)).Sat hf β (β i1) (single b (.cells (splice vs (k' * i.size) V).toArray tt fr)) := by
          refine ⟨hsz, some ⟨b, 0, none⟩, cap, hb, f2, .inr ⟨b, _, tt, fr, rfl, ?_, rfl, hun, fun j hj => ?_⟩⟩
          · rw [splice_length (by omega)]; exact hvl
          · have hmul : ∀ {x y : Nat}, x < y → x * i.size + i.size ≤ y * i.size := fun {x y} hxy => by
              have := Nat.mul_le_mul_right i.size (Nat.succ_le_of_lt hxy)
              simpa [Nat.succ_mul] using this
            unfold splice
            show CV.DenL β (if k' ≤ j ∧ j < k' + m then g (j - k') else f' j) _
            by_cases h1 : j < k'
            · rw [if_neg (by omega)]
              have := hmul h1
              have e : (((vs.take (k' * i.size) ++ V ++ vs.drop (k' * i.size + V.length)).drop (j * i.size)).take i.size) = ((vs.drop (j * i.size)).take i.size) := by
                rw [List.append_assoc, List.drop_append_of_le_length (by simp; omega), List.take_append_of_le_length (by simp; omega), List.drop_take, List.take_take]
                congr 1
                omega
              rw [e]; exact hden j hj
            · by_cases h2 : j < k' + m
              · rw [if_pos ⟨by omega, h2⟩]
                have h3 := hmul (show j - k' < m by omega)
                have h4 : j * i.size = k' * i.size + (j - k') * i.size := by rw [← Nat.add_mul]; congr 1; omega
                have e : (((vs.take (k' * i.size) ++ V ++ vs.drop (k' * i.size + V.length)).drop (j * i.size)).take i.size) = ((V.drop ((j - k') * i.size)).take i.size) := by
                  have hlt : (vs.take (k' * i.size)).length = k' * i.size := by simp; omega
                  rw [List.append_assoc, h4, ← List.drop_drop, show (vs.take (k' * i.size) ++ (V ++ vs.drop (k' * i.size + V.length))).drop (k' * i.size) = V ++ vs.drop (k' * i.size + V.length) by rw [List.drop_append_of_le_length (by omega), List.drop_of_length_le (by omega)]; simp]
                  rw [List.drop_append_of_le_length (by omega), List.take_append_of_le_length (by simp; omega)]
                rw [e]; exact hV1.den (j - k') (by omega)
              · rw [if_neg (by omega)]
                have h3 := hmul hj
                have h4 : (k' + m) * i.size ≤ j * i.size := Nat.mul_le_mul_right _ (by omega)
                rw [Nat.add_mul] at h4
                have e : (((vs.take (k' * i.size) ++ V ++ vs.drop (k' * i.size + V.length)).drop (j * i.size)).take i.size) = ((vs.drop (j * i.size)).take i.size) := by
                  have hlt : (vs.take (k' * i.size) ++ V).length = k' * i.size + m * i.size := by simp; omega
                  rw [List.drop_append, List.drop_of_length_le (by omega), List.nil_append, List.drop_drop, hlt]
                  congr 2
                  omega
                rw [e]; exact hden j hj
        have hrel := hr.write (i := i1) hhi hsat
        refine ⟨_, _, β, _, ⟨.inl (hexec _ _ hrun), ?_, fun _ _ => rfl, Env.le_refl β, fun _ => hn, hrel, setB_ext _ _ _⟩⟩
        exact ⟨some ⟨b, 0, none⟩, cap, hb, by simpa [Nat.add_mul] using hfit, hsz, fun m' hm' => by
          simp only [Option.some.injEq] at hm'; subst hm'; exact ⟨hroom1, by simpa using hmc'.2⟩, some ⟨b, 0, none⟩, by simp, fun _ => ⟨_, rfl, by simp [add_none]⟩⟩


theorem snd_append {o : Oper} {c : Call} {t u e : TypeId} {d : TypeDesc} {i : TypeInfo} {z : List Value} {s x : Operand} (h : o.op = .call c) (hc : c.callee = .builtin .append)
    (h0 : c.argTypes[0]? = some t) (h1 : c.argTypes[1]? = some u) (has : c.args = #[s, x]) (ht : P.underlying t = some (.slice e)) (hu : P.underlying u = some d) (hd0 : (∃ e', d = .slice e') ∨ d = .string)
    (hi : P.info? e = some i) (hz : zeroOf P e = some z) (hsz : 0 < i.size) (hby : 0 < i.bytes) : Sound P o (.append i.size i.bytes z s x) := by
  intro ρ va hf w β res hp n rs r hd hrs hr hn hop ho
  have hs := hd s (by simp [SOp.operands])
  have hx := hd x (by simp [SOp.operands])
  simp only [opFn] at hop
  split at hop
  case h_2 => cases hop
  rename_i q m g e2
  refine append_core hr hn hi hz hsz (fun j hj => hrs j (by simp [need, hj])) hs (ts := c.argTypes) (ty := o.type) (x := va x) ?_ (fun hq => ?_) hop ho
  · intro v w' hw
    simp only [execOp, h, resolve, hc, has, List.map_toArray, List.map_cons, List.map_nil, Sem.run_bind, Sem.run_pure, Result.andThen_ok, invoke, builtin, hw]
  · obtain ⟨hl1, V, hV1, hV2⟩ := src_world (P := P) hr hsz e2 hq (fun j hj => hrs j (by simp [need, hj])) hx
    have hVt : V.take (m * i.size) = V := List.take_of_length_le (by have := hV1.len; omega)
    have hV2' : ∀ w' : World, w'.heap = w.heap → (Builtin.firstCells i.size m (va x)).run P w' = .ok V.toArray w' := fun w' hw' => by
      have := hV2 m (Nat.le_refl _) w' hw'
      rw [hVt] at this; exact this
    exact ⟨V, hV1, fun base k c' A hold hroom => run_append h0 h1 ht hu hd0 hi hz hsz hby hl1 (hV2' w rfl) hold hV2' hroom⟩

theorem snd_appz {o : Oper} {c : Call} {t u e : TypeId} {k : IntKind} {i : TypeInfo} {z : List Value} {s x : Operand} (h : o.op = .call c) (hc : c.callee = .builtin .append)
    (h0 : c.argTypes[0]? = some t) (h1 : c.argTypes[1]? = some u) (has : c.args = #[s, x]) (ht : P.underlying t = some (.slice e)) (hu : P.underlying u = some (.int k))
    (hi : P.info? e = some i) (hz : zeroOf P e = some z) (hsz : 0 < i.size) (hby : 0 < i.bytes) : Sound P o (.appz i.size i.bytes z s x) := by
  intro ρ va hf w β res hp n rs r hd hrs hr hn hop ho
  have hs := hd s (by simp [SOp.operands])
  have hx := hd x (by simp [SOp.operands])
  simp only [opFn] at hop
  split at hop
  case h_2 => cases hop
  rename_i kx a e2
  rw [e2] at hx
  refine append_core hr hn hi hz hsz (fun j hj => hrs j (by simp [need, hj])) hs (ts := c.argTypes) (ty := o.type) (x := va x) ?_ (fun hq => ?_) hop ho
  · intro v w' hw
    simp only [execOp, h, resolve, hc, has, List.map_toArray, List.map_cons, List.map_nil, Sem.run_bind, Sem.run_pure, Result.andThen_ok, invoke, builtin, hw]
  · obtain ⟨i', zv, hi', _, _, hpl, hzlen, _, _⟩ := zeroOf_run (w := w) hz
    rw [hi] at hi'; cases hi'
    refine ⟨(List.replicate a.toNat z).flatten, ⟨by simp [hzlen], fun j hj => ?_⟩, fun base k' c' A hold hroom => ?_⟩
    · have key : ∀ (m j : Nat), j < m → (((List.replicate m z).flatten.drop (j * i.size)).take i.size) = z := by
        intro m
        induction m with
        | zero => intro j hj; omega
        | succ m ih =>
          intro j hj
          simp only [List.replicate_succ, List.flatten_cons]
          cases j with
          | zero => simp [← hzlen]
          | succ j =>
            rw [Nat.succ_mul, Nat.add_comm, ← List.drop_drop, show (z ++ (List.replicate m z).flatten).drop i.size = (List.replicate m z).flatten by rw [← hzlen]; simp]
            exact ih j (by omega)
      rw [key _ j hj]
      exact denL_vals z hpl
    · rw [hx.1]
      exact run_appendZ h0 h1 ht hu ⟨k, rfl⟩ hi hz hsz hby hq rfl hold hroom

end
end Sx

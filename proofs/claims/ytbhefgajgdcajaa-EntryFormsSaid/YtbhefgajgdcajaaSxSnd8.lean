/- The engine's operations are sound, eighth part: maps of places by places; lengths. -/
import Derived.Test.YtbhefgajgdcajaaSxSnd7
set_option linter.unusedVariables false
set_option linter.unusedSimpArgs false
namespace Sx
open Go

section
variable {P : Program} {o : Oper}

structure Rid (P : Program) (t : TypeId) : Prop where
  flat : flat P 3 t = some [.int, .int]
  struct : ∃ fs, P.underlying t = some (.struct fs)
  zero : ∀ w : World, (zeroValue t).run P w = .ok (.agg #[.int .i64 0, .int .i64 0]) w

theorem rid_of {t : TypeId} (h : isRid P t = true) : Rid P t := by
  unfold isRid at h
  split at h
  case h_2 => cases h
  rename_i fs i h1 h2
  simp only [Bool.and_eq_true, decide_eq_true_eq] at h
  obtain ⟨⟨⟨e1, e2⟩, e3⟩, _⟩ := h
  split at e3
  case h_2 => cases e3
  rename_i cs hz
  split at e3
  case h_2 => cases e3
  rename_i hcs
  refine ⟨e1, ⟨fs, h1⟩, fun w => ?_⟩
  have : cs = #[.int .i64 0, .int .i64 0] := by rw [← Array.toArray_toList (xs := cs), hcs]
  simp [zeroValue, typeInfo, h2, hz, this]

/-- A loop of checks that all pass. -/
theorem forIn_ok {w : World} {α : Type} (f : α → PUnit → Sem (ForInStep PUnit)) : ∀ (l : List α), (∀ x ∈ l, (f x PUnit.unit).run P w = .ok (ForInStep.yield PUnit.unit) w) →
    (forIn l PUnit.unit f : Sem PUnit).run P w = .ok PUnit.unit w
  | [], _ => by simp
  | x :: l, h => by
    simp only [List.forIn_cons, Sem.run_bind, h x (by simp), Result.andThen_ok]
    exact forIn_ok f l (fun y hy => h y (by simp [hy]))

theorem check_leaf {w : World} {em : Bool} {D : Nat} {t : TypeId} {d : TypeDesc} (hd : P.underlying t = some d) (hk : (∃ k, d = .int k) ∨ d = .bool ∨ d = .string) (v : Value) :
    (Instr.checkKey em (D + 1) t v).run P w = .ok () w := by
  rcases hk with ⟨k, rfl⟩ | rfl | rfl <;> simp [Instr.checkKey, run_underlying hd]

theorem check_flat {w : World} {em : Bool} {β : Env} : ∀ (d : Nat) (t : TypeId) (sh : List Leaf), flat P d t = some sh → ∀ (D : Nat), d ≤ D → ∀ (l : List CV) (vs : List Value), CV.DenL β l vs →
    l.length = sh.length → (Instr.checkKey em D t (valOf P t vs)).run P w = .ok () w
  | 0, _, _, h => by cases h
  | d + 1, t, sh, h => by
    intro D hD l vs hl hll
    obtain ⟨D, rfl⟩ : ∃ D', D = D' + 1 := ⟨D - 1, by omega⟩
    unfold flat at h
    split at h
    · rename_i k h1; exact check_leaf h1 (.inl ⟨k, rfl⟩) _
    · rename_i h1; exact check_leaf h1 (.inr (.inl rfl)) _
    · rename_i h1; exact check_leaf h1 (.inr (.inr rfl)) _
    · rename_i fs h1
      split at h
      · cases h
      · split at h
        case h_2 => cases h
        rename_i r i h2 h3
        split at h
        case isFalse => cases h
        simp only [Option.some.injEq] at h; subst h
        have hv : valOf P t vs = .agg vs.toArray := by simp [valOf, h1]
        have hlV := CV.denL_length _ _ hl
        have hfields : ∀ (gs : List Field) (off : Nat) (r' : List Leaf), flatF (flat P d) gs off = some r' → off + r'.length ≤ l.length → ∀ f ∈ gs,
            ((do if f.name ≠ "_" then Instr.checkKey em D f.type (← part f.type vs.toArray f.offset) : Sem Unit)).run P w = .ok () w := by
          intro gs
          induction gs with
          | nil => intro _ _ _ _ f hf; cases hf
          | cons g gs ih =>
            intro off r' hr hle f hf
            unfold flatF at hr
            split at hr
            case isFalse => cases hr
            rename_i hcond
            split at hr
            case h_2 => cases hr
            rename_i s1 hs1
            split at hr
            case h_2 => cases hr
            rename_i s2 hs2
            simp only [Option.some.injEq] at hr; subst hr
            simp only [List.length_append] at hle
            rcases List.mem_cons.1 hf with rfl | hf
            · have hpart : (part f.type vs.toArray f.offset).run P w = .ok (valOf P f.type ((vs.drop off).take s1.length)) w := by
                rw [hcond.2]
                obtain ⟨u, hu, hcase⟩ := flat_size _ _ _ hs1
                rcases hcase with ⟨gs', rfl, i', hi, hsz'⟩ | ⟨hagg, hlen⟩
                · rw [run_part hu hi]
                  simp [isAggD, valOf, hu, hsz']
                · have hag : (isAgg f.type).run P w = .ok false w := by
                    rw [run_isAgg_of hu]; cases u <;> first | rfl | (simp [isAggD] at hagg)
                  unfold part
                  simp only [Sem.run_bind, hag, Result.andThen_ok, Bool.false_eq_true, if_false]
                  have hlt : off < vs.length := by omega
                  have : vs.toArray[off]? = some (vs[off]) := by simp [hlt]
                  rw [this]
                  simp only [Sem.run_pure]
                  congr 1
                  unfold valOf
                  rw [hu, hlen, List.drop_eq_getElem_cons hlt]
                  cases u <;> first | rfl | (simp [isAggD] at hagg)
              rw [if_pos hcond.1]
              simp only [Sem.run_bind, hpart, Result.andThen_ok]
              exact check_flat d f.type s1 hs1 D (by omega) _ _ (CV.denL_take s1.length _ _ (CV.denL_drop off _ _ hl)) (by simp; omega)
            · exact ih (off + s1.length) s2 hs2 (by omega) f hf
        have hall := hfields fs.toList 0 r h2 (by omega)
        rw [hv]
        unfold Instr.checkKey
        simp only [Sem.run_bind, run_underlying h1, Result.andThen_ok]
        rw [← Array.forIn_toList]
        rw [forIn_ok]
        · rfl
        · intro f hf
          have := hall f hf
          split
          · rename_i hne
            rw [if_pos hne] at this
            simp only [Sem.run_bind] at this ⊢
            revert this
            generalize (part f.type vs.toArray f.offset).run P w = q
            intro this
            cases q with
            | halt x w' => simp at this
            | ok a w' =>
              simp only [Result.andThen_ok] at this ⊢
              rw [this]; rfl
          · rfl
    · cases h

theorem ridV_val {t : TypeId} (h : Rid P t) (k : Int × Int) : ridV k = valOf P t [.int .i64 k.1, .int .i64 k.2] := by
  obtain ⟨fs, hfs⟩ := h.struct
  simp [ridV, valOf, hfs]

theorem ridC_den (β : Env) (k : Int × Int) : CV.DenL β (ridC k) [.int .i64 k.1, .int .i64 k.2] := ⟨⟨rfl, trivial⟩, ⟨rfl, trivial⟩, trivial⟩

theorem rid_check {w : World} {em : Bool} {t : TypeId} (h : Rid P t) (k : Int × Int) : (Instr.checkKey em 10000 t (ridV k)).run P w = .ok () w := by
  rw [ridV_val h]
  exact check_flat (β := ⟨fun _ => none, fun _ => none⟩) 3 t _ h.flat 10000 (by omega) _ _ (ridC_den _ k) rfl

theorem rid_equal {w : World} {t : TypeId} (h : Rid P t) (k k' : Int × Int) : (Op.equal t (ridV k) (ridV k')).run P w = .ok (k' == k) w := by
  rw [ridV_val h, ridV_val h]
  refine flat_eq (β := ⟨fun _ => none, fun _ => none⟩) 3 t _ h.flat 10000 (by omega) _ _ _ _ _ (ridC_den _ k) (ridC_den _ k') rfl rfl ?_
  simp only [ridC, eqCells, if_true, Option.map_some, Bool.and_true]
  congr 1
  obtain ⟨a, b⟩ := k
  obtain ⟨c, d⟩ := k'
  have e1 : (a == c) = (c == a) := by rw [Bool.eq_iff_iff, beq_iff_eq, beq_iff_eq]; exact eq_comm
  have e2 : (b == d) = (d == b) := by rw [Bool.eq_iff_iff, beq_iff_eq, beq_iff_eq]; exact eq_comm
  show (a == c && b == d) = (c == a && d == b)
  rw [e1, e2]

theorem findNow_struct {fs : Array Field} (k : Value) (es : List MapEntry) (i : Nat) : Instr.findNow (.struct fs) k es i = if es.isEmpty then some none else none := by
  cases es with
  | nil => rfl
  | cons e es => simp [Instr.findNow, Instr.sameNow]

theorem rid_asking {w : World} {t : TypeId} (h : Rid P t) (k : Int × Int) : ∀ (es : List MapEntry) (l : RMap) (i : Nat), es.map (fun e => (e.key, e.val)) = l.map (fun x => (ridV x.1, ridV x.2)) →
    (Instr.findAsking t (ridV k) es i).run P w = .ok ((l.findIdx? (fun e => e.1 == k)).bind fun j => (es[j]?).map fun e => (i + j, e.val)) w
  | [], l, i, he => by
    have : l = [] := by simpa using he.symm
    subst this
    simp [Instr.findAsking]
  | e :: es, [], i, he => by simp at he
  | e :: es, x :: l, i, he => by
    simp only [List.map_cons, List.cons.injEq, Prod.mk.injEq] at he
    obtain ⟨⟨h1, h2⟩, h3⟩ := he
    unfold Instr.findAsking
    simp only [Sem.run_bind, h1, rid_equal h, Result.andThen_ok]
    rw [List.findIdx?_cons]
    cases hb : x.1 == k
    · simp only [Bool.false_eq_true, if_false]
      rw [rid_asking h k es l (i + 1) h3]
      congr 1
      cases l.findIdx? (fun e => e.1 == k) with
      | none => rfl
      | some j => simp [Nat.add_assoc, Nat.add_comm 1 j]
    · simp

theorem rid_find {w : World} {t : TypeId} (h : Rid P t) (k : Int × Int) (es : List MapEntry) (l : RMap) (he : es.map (fun e => (e.key, e.val)) = l.map (fun x => (ridV x.1, ridV x.2))) :
    (Instr.findKey t (ridV k) es).run P w = .ok ((l.findIdx? (fun e => e.1 == k)).bind fun j => (es[j]?).map fun e => (j, e.val)) w := by
  obtain ⟨fs, hfs⟩ := h.struct
  unfold Instr.findKey
  simp only [Sem.run_bind, run_underlying hfs, Result.andThen_ok, findNow_struct]
  have := rid_asking (w := w) h k es l 0 he
  simp only [Nat.zero_add] at this
  cases es with
  | nil =>
    have : l = [] := by simpa using he.symm
    subst this
    simp
  | cons e es => simpa using this

theorem rfind_idx (l : RMap) (k : Int × Int) (es : List MapEntry) (he : es.map (fun e => (e.key, e.val)) = l.map (fun x => (ridV x.1, ridV x.2))) :
    ((l.findIdx? (fun e => e.1 == k)).bind fun j => (es[j]?).map fun e => e.val) = (rfind l k).map ridV ∧
    ((l.findIdx? (fun e => e.1 == k)).isSome = (rfind l k).isSome) := by
  induction l generalizing es with
  | nil => simp [rfind]
  | cons x l ih =>
    cases es with
    | nil => simp at he
    | cons e es =>
      simp only [List.map_cons, List.cons.injEq, Prod.mk.injEq] at he
      obtain ⟨⟨h1, h2⟩, h3⟩ := he
      have := ih es h3
      rw [List.findIdx?_cons]
      unfold rfind at this ⊢
      rw [List.find?_cons]
      cases hb : x.1 == k
      · simp only [Bool.false_eq_true, if_false]
        cases hf : l.findIdx? (fun e => e.1 == k) with
        | none => rw [hf] at this; simpa using this
        | some j => rw [hf] at this; simpa using this
      · simp [h2]

theorem keyOf2_den {β : Env} {s : SV} {k : Int × Int} {x : Value} (h : keyOf2 s = some k) (hd : SV.Den β s x) : x = ridV k := by
  unfold keyOf2 at h
  split at h
  · simp only [Option.some.injEq] at h; subst h
    obtain ⟨vs, rfl, hden⟩ := hd
    match vs, hden with
    | [v0, v1], hd' =>
      obtain ⟨⟨h0, _⟩, ⟨h1, _⟩, _⟩ := hd'
      rw [h0, h1]; rfl
  · cases h

theorem ridMap_of {t : TypeId} (h : ridMap P t = true) : ∃ k e, P.underlying t = some (.map k e) ∧ Rid P k ∧ Rid P e := by
  unfold ridMap at h
  split at h
  · rename_i k e h1
    simp only [Bool.and_eq_true] at h
    exact ⟨k, e, h1, rid_of h.1, rid_of h.2⟩
  · cases h

theorem run_getMap {w : World} {b : Nat} {es : Array MapEntry} {c : Nat} (h : w.heap[b]? = some (.map es c)) : (getObj b).run P w = .ok (.map es c) w := by
  simp [getObj, Sem.run, h]
theorem run_setMap {w : World} {b : Nat} {es : Array MapEntry} {c : Nat} (h : w.heap[b]? = some (.map es c)) (q : Obj) : (setObj b q).run P w = .ok () (setB w b q) := by
  simp [setObj, Sem.run, h, setB]

theorem snd_mkmap {t : TypeId} {r : Option Operand} (hr' : r = none) (h : o.op = .makeMap t r) : Sound P o .mkmap := by
  subst hr'
  intro ρ va hf w β res hp n rs r hd _ hr hn hop _
  simp only [opFn, Option.some.injEq] at hop; subst hop
  refine done_alloc hr hn (bd := ⟨some ⟨w.heap.size, 0, none⟩, 0⟩) (o := .map #[] 0) (v := .map (some w.heap.size)) ?_ ?_ ?_
  · simp [execOp, h, Instr.makeMap]
  · exact ⟨_, _, up_same _ _ _, rfl⟩
  · exact ⟨w.heap.size, #[], 0, rfl, rfl, ⟨by simp, by simp, by simp⟩⟩

theorem snd_look {t : TypeId} {x y : Operand} {ok : Bool} (hm : ridMap P t = true) (h : o.op = .lookup t x y ok) : Sound P o (.look x y ok) := by
  intro ρ va hf w β res hp n rs r hd hrs hr hn hop _
  have hx := hd x (by simp [SOp.operands])
  have hy := hd y (by simp [SOp.operands])
  obtain ⟨kt, et, ht, hk, he⟩ := ridMap_of hm
  simp only [opFn] at hop
  split at hop
  case h_2 => cases hop
  rename_i i k ex ek
  rw [ex] at hx
  rw [← hrs i (by simp [need, ex, SV.nm])] at hop
  split at hop
  case h_2 => cases hop
  rename_i l hres
  simp only [Option.some.injEq] at hop; subst hop
  have hs := hr.sat i
  rw [hres] at hs
  obtain ⟨b, es, c, hb1, hb2, hmi⟩ := hs
  obtain ⟨b', cap, hb3, hv⟩ := hx
  rw [hb1] at hb3
  simp only [Option.some.injEq, Bd.mk.injEq, Addr.mk.injEq] at hb3
  obtain ⟨⟨rfl, _⟩, _⟩ := hb3
  have hobj := sub_single.1 (hb2 ▸ hr.sub i)
  have hky := keyOf2_den ek hy
  have hfind := rid_find (w := w) hk k es.toList l hmi.reads
  have hidx := rfind_idx l k es.toList hmi.reads
  have hrun : (Instr.lookup t (.map (some b)) (ridV k) ok).run P w = .ok (if ok then .tuple #[ridV ((rfind l k).getD (0, 0)), .bool (rfind l k).isSome] else ridV ((rfind l k).getD (0, 0))) w := by
    unfold Instr.lookup
    simp only [Sem.run_bind, run_underlying ht, Result.andThen_ok, run_getMap hobj, Sem.run_pure, rid_check hk, hfind]
    cases hf : l.findIdx? (fun e => e.1 == k) with
    | none =>
      rw [hf] at hidx
      have hn : rfind l k = none := by
        cases hq : rfind l k with
        | none => rfl
        | some q => rw [hq] at hidx; simp at hidx
      simp only [Option.bind_none, Sem.run_bind, he.zero, Result.andThen_ok, Sem.run_pure, hn]
      cases ok <;> rfl
    | some j =>
      rw [hf] at hidx
      simp only [Option.bind_some] at hidx ⊢
      cases hej : es.toList[j]? with
      | none => rw [hej] at hidx; cases hq : rfind l k <;> rw [hq] at hidx <;> simp at hidx
      | some e =>
        rw [hej] at hidx
        cases hq : rfind l k with
        | none => rw [hq] at hidx; simp at hidx
        | some q =>
          rw [hq] at hidx
          simp only [Option.map_some, Option.some.injEq] at hidx ⊢
          simp only [Sem.run_pure, Result.andThen_ok, hidx.1, Option.getD_some, Option.isSome_some]
          cases ok <;> rfl
  refine done_pure hr hn (v := if ok then .tuple #[ridV ((rfind l k).getD (0, 0)), .bool (rfind l k).isSome] else ridV ((rfind l k).getD (0, 0))) ?_ ?_
  · simp [execOp, h, hv, hky, hrun]
  · cases ok
    · exact ⟨_, rfl, ridC_den _ _⟩
    · exact ⟨[ridV _, .bool _], rfl, ⟨_, rfl, ridC_den _ _⟩, ⟨rfl, trivial⟩, trivial⟩

end
end Sx

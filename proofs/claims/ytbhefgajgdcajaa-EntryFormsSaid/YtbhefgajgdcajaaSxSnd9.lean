/- The engine's operations are sound, ninth part: writing maps; lengths; the least and the greatest. -/
import Derived.Test.YtbhefgajgdcajaaSxSnd8
set_option linter.unusedVariables false
set_option linter.unusedSimpArgs false
namespace Sx
open Go

section
variable {P : Program} {o : Oper}

theorem findIdx_none {l : RMap} {k : Int × Int} (h : rfind l k = none) : l.findIdx? (fun e => e.1 == k) = none := by
  unfold rfind at h
  simp only [Option.map_eq_none_iff, List.find?_eq_none] at h
  rw [List.findIdx?_eq_none_iff]
  intro x hx
  simpa using h x hx

theorem done_map {hf : Fr} {w : World} {β : Env} {res : Nat → Res} {hp : Nat → Hp} {n i b : Nat} {run : Result Next} (hr : Rel hf w β res hp) (hn : β n = none) {p : Prop} {ob ob' : Obj} {r : Res} (hi : hp i = single b ob)
    (hrun : run = .ok .skip (setB w b ob')) (hs : r.Sat hf β (β i) (single b ob')) : ∃ v w' β' h', Done P hf run w β res hp n ⟨p, .any, [(i, r)]⟩ v w' β' h' :=
  done_write hr hn hi (v := undef) trivial (.inl ⟨hrun, rfl⟩) hs

theorem mapIs_push {es : Array MapEntry} {c : Nat} {l : RMap} (h : MapIs es c l) (k v : Int × Int) : MapIs (es.push { key := ridV k, val := ridV v, born := c }) (c + 1) (l ++ [(k, v)]) := by
  refine ⟨by simp [h.reads], ?_, ?_⟩
  · intro e he
    simp only [Array.toList_push, List.mem_append, List.mem_singleton] at he
    rcases he with he | rfl
    · have := h.below e he; omega
    · show c < c + 1; omega
  · simp only [Array.toList_push]
    rw [List.pairwise_append]
    refine ⟨h.once, by simp, ?_⟩
    intro a ha b hb
    simp only [List.mem_singleton] at hb
    subst hb
    have := h.below a ha
    show a.born ≠ c
    omega

theorem snd_mentry {t : TypeId} {x y : Operand} (hm : ridMap P t = true) (h : o.op = .mapEntry t x y) : Sound P o (.mentry x y) := by
  intro ρ va hf w β res hp n rs r hd hrs hr hn hop ho
  have hx := hd x (by simp [SOp.operands])
  have hy := hd y (by simp [SOp.operands])
  obtain ⟨kt, et, ht, hk, he⟩ := ridMap_of hm
  simp only [opFn] at hop
  split at hop
  case h_2 => cases hop
  rename_i i k ex ek
  rw [ex] at hx
  rw [← hrs i (by simp [need, ex, SV.nm])] at hop
  split at hop
  case h_2 => cases hop
  rename_i l hres
  simp only [Option.some.injEq] at hop; subst hop
  have hs := hr.sat i
  rw [hres] at hs
  obtain ⟨b, es, c, hb1, hb2, hmi⟩ := hs
  obtain ⟨b', cap, hb3, hv⟩ := hx
  rw [hb1] at hb3
  simp only [Option.some.injEq, Bd.mk.injEq, Addr.mk.injEq] at hb3
  obtain ⟨⟨rfl, _⟩, _⟩ := hb3
  have hobj := sub_single.1 (hb2 ▸ hr.sub i)
  have hky := keyOf2_den ek hy
  have hfind := rid_find (w := w) hk k es.toList l hmi.reads
  have hnone := findIdx_none ho
  rw [hnone] at hfind
  simp only [Option.bind_none] at hfind
  have hin : i ≠ n := fun e => by rw [e, hn] at hb1; cases hb1
  have hpush := mapIs_push hmi k (0, 0)
  have hz : ridV (0, 0) = .agg #[.int .i64 0, .int .i64 0] := rfl
  rw [hz] at hpush
  -- the new name holds the number
  obtain ⟨β', hβ'⟩ : ∃ b : Env, b = β.up n (some ⟨none, c⟩) := ⟨_, rfl⟩
  obtain ⟨ob', hob'⟩ : ∃ q : Obj, q = .map (es.push { key := ridV k, val := .agg #[.int .i64 0, .int .i64 0], born := c }) (c + 1) := ⟨_, rfl⟩
  have hle : Env.le β β' := by rw [hβ']; exact Env.le_up hn
  have hr1 : Rel hf w β' (up res n .gone) hp := by rw [hβ']; exact hr.name hn trivial
  have hbi : β' i = β i := by rw [hβ']; exact Env.up_ne _ _ hin
  have hbn : β' n = some ⟨none, c⟩ := by rw [hβ']; exact Env.up_same _ _ _
  have hr2 := hr1.write (i := i) (o' := ob') (r := .rmapP l k n) hb2
    ⟨b, _, c + 1, by rw [hbi]; exact hb1, by rw [hob'], hpush, none, c, hbn, by
      have hlen : es.toList.length = l.length := by have := congrArg List.length hmi.reads; simpa using this
      rw [Array.toList_push, List.getElem?_append_right (by omega)]
      simp [hlen]⟩
  refine ⟨.tuple #[.agg #[.int .i64 0, .int .i64 0], .int .i64 c], setB w b ob', β', up hp i (single b ob'), ⟨.inl ?_, ?_, fun j hj => by rw [hβ']; exact Env.up_ne _ _ hj, hle, fun hni => (hni (by simp)).elim, ?_, setB_ext _ _ _⟩⟩
  · have hrun : (Instr.mapEntry t (.map (some b)) (ridV k)).run P w = .ok (.tuple #[.agg #[.int .i64 0, .int .i64 0], .int .i64 c]) (setB w b ob') := by
      rw [hob']
      unfold Instr.mapEntry
      simp only [Sem.run_bind, run_underlying ht, Result.andThen_ok, run_getMap hobj, rid_check hk, hfind, he.zero, run_setMap hobj, Sem.run_pure]
      rfl
    simp [execOp, h, hv, hky, hrun]
  · exact ⟨[_, _], rfl, trivial, ⟨none, c, hbn, rfl⟩, trivial⟩
  · have : upds res [(i, Res.rmapP l k n), (n, .gone)] = up (up res n .gone) i (.rmapP l k n) := by
      funext j
      simp only [upds, up]
      split <;> split <;> simp_all
    show Rel hf _ β' (upds res [(i, Res.rmapP l k n), (n, .gone)]) _
    rw [this]
    exact hr2

theorem findIdx_born : ∀ (es : List MapEntry) (j : Nat) (e : MapEntry), es.Pairwise (fun a b => a.born ≠ b.born) → es[j]? = some e → es.findIdx? (fun x => (x.born : Int) == (e.born : Int)) = some j
  | [], j, e, _, h => by simp at h
  | x :: es, 0, e, _, h => by
    simp at h; subst h
    simp [List.findIdx?_cons]
  | x :: es, j + 1, e, hp, h => by
    simp only [List.getElem?_cons_succ] at h
    rw [List.pairwise_cons] at hp
    have hne : x.born ≠ e.born := hp.1 e (List.mem_of_getElem? h)
    rw [List.findIdx?_cons]
    have : ((x.born : Int) == (e.born : Int)) = false := by simp; omega
    rw [this, findIdx_born es j e hp.2 h]
    rfl

theorem get_mod {α : Type} (l : List α) (i : Nat) (f : α → α) (q : Nat) : (l.modify i f)[q]? = if i = q then l[q]?.map f else l[q]? := by
  rw [List.getElem?_modify]
  by_cases h : i = q
  · simp only [h, if_true]; cases l[q]? <;> rfl
  · simp only [h, if_false]; cases l[q]? <;> rfl

theorem snd_estore {t : TypeId} {x s y : Operand} (h : o.op = .entryStore t x s y) : Sound P o (.estore x s y) := by
  intro ρ va hf w β res hp n rs r hd hrs hr hn hop ho
  have hx := hd x (by simp [SOp.operands])
  have hss := hd s (by simp [SOp.operands])
  have hy := hd y (by simp [SOp.operands])
  simp only [opFn] at hop
  split at hop
  case h_2 => cases hop
  rename_i i j v ex es' ek
  rw [ex] at hx; rw [es'] at hss
  rw [← hrs i (by simp [need, ex, SV.nm])] at hop
  split at hop
  case h_2 => cases hop
  rename_i l k j' hres
  split at hop
  case isFalse => cases hop
  rename_i hj; subst hj
  simp only [Option.some.injEq] at hop; subst hop
  have hs := hr.sat i
  rw [hres] at hs
  obtain ⟨b, es, c, hb1, hb2, hmi, ad, e0, hb4, ent, hent, hborn⟩ := hs
  obtain ⟨b', cap, hb3, hv⟩ := hx
  rw [hb1] at hb3
  simp only [Option.some.injEq, Bd.mk.injEq, Addr.mk.injEq] at hb3
  obtain ⟨⟨rfl, _⟩, _⟩ := hb3
  obtain ⟨ad', e0', hb5, hvs⟩ := hss
  rw [hb4] at hb5
  simp only [Option.some.injEq, Bd.mk.injEq] at hb5
  obtain ⟨_, rfl⟩ := hb5
  have hobj := sub_single.1 (hb2 ▸ hr.sub i)
  have hky := keyOf2_den ek hy
  have hidx := findIdx_born es.toList l.length ent hmi.once hent
  have hidx' : es.findIdx? (fun x => (x.born : Int) == (e0 : Int)) = some l.length := by
    rw [← hborn, ← hidx]
    conv => lhs; rw [← Array.toArray_toList (xs := es), List.findIdx?_toArray]
  refine done_map (P := P) hr hn hb2 (ob' := .map (es.modify l.length fun e => { e with val := ridV v }) c) ?_ ⟨b, _, c, hb1, rfl, ?_⟩
  · have hrun : (Instr.entryStore t (.map (some b)) (.int .i64 e0) (ridV v)).run P w = .ok () (setB w b (.map (es.modify l.length fun e => { e with val := ridV v }) c)) := by
      unfold Instr.entryStore
      simp only [Sem.run_bind, run_getMap hobj, Result.andThen_ok, asInt, asIntOf, Sem.run_pure, hidx', run_setMap hobj]
    simp [execOp, h, hv, hvs, hky, hrun]
  · have hlen : es.size = l.length + 1 := by have := congrArg List.length hmi.reads; simpa using this
    have hmod : (es.modify l.length fun e => { e with val := ridV v }).toList = es.toList.modify l.length (fun e => { e with val := ridV v }) := by simp
    refine ⟨?_, ?_, ?_⟩
    · rw [hmod]
      apply List.ext_getElem?
      intro q
      have hq := congrArg (fun z => z[q]?) hmi.reads
      simp only [List.getElem?_map] at hq ⊢
      rw [get_mod]
      by_cases hql : q = l.length
      · subst hql
        rw [if_pos rfl]
        rw [hent] at hq ⊢
        rw [List.getElem?_append_right (Nat.le_refl _)] at hq ⊢
        simp at hq ⊢
        exact hq.1
      · rw [if_neg (Ne.symm hql)]
        rcases Nat.lt_or_ge q l.length with hlt | hge
        · rw [List.getElem?_append_left hlt] at hq ⊢
          simpa using hq
        · rw [List.getElem?_eq_none (l := es.toList) (by simp; omega), List.getElem?_eq_none (l := l ++ [(k, v)]) (by simp; omega)]
          rfl
    · intro e he
      rw [hmod] at he
      obtain ⟨q, hq⟩ := List.getElem?_of_mem he
      rw [get_mod] at hq
      split at hq
      · cases hz : es.toList[q]? with
        | none => rw [hz] at hq; cases hq
        | some e1 =>
          rw [hz] at hq
          simp only [Option.map_some, Option.some.injEq] at hq
          subst hq
          exact hmi.below e1 (List.mem_of_getElem? hz)
      · exact hmi.below _ (List.mem_of_getElem? hq)
    · rw [hmod]
      have hb : (es.toList.modify l.length (fun e => { e with val := ridV v })).map (·.born) = es.toList.map (·.born) := by
        apply List.ext_getElem?
        intro q
        simp only [List.getElem?_map, get_mod]
        split <;> cases es.toList[q]? <;> rfl
      have := hmi.once
      have h1 : (es.toList.map (·.born)).Pairwise (· ≠ ·) := List.pairwise_map.2 this
      rw [← hb] at h1
      exact List.pairwise_map.1 h1

theorem eraseP_idx (l : RMap) (k : Int × Int) : rdel l k = match l.findIdx? (fun e => e.1 == k) with
    | some j => l.eraseIdx j
    | none => l := by
  unfold rdel
  induction l with
  | nil => rfl
  | cons x l ih =>
    rw [List.findIdx?_cons, List.eraseP_cons]
    cases hb : x.1 == k
    · simp only [Bool.false_eq_true, if_false, ih, cond_false]
      cases l.findIdx? (fun e => e.1 == k) <;> simp
    · simp

theorem snd_mdel {c : Call} {mt : TypeId} {x y : Operand} (hm : ridMap P mt = true) (h : o.op = .call c) (hc : c.callee = .builtin .delete) (hts : c.argTypes[0]? = some mt) (has : c.args = #[x, y]) : Sound P o (.mdel x y) := by
  intro ρ va hf w β res hp n rs r hd hrs hr hn hop ho
  have hx := hd x (by simp [SOp.operands])
  have hy := hd y (by simp [SOp.operands])
  obtain ⟨kt, et, ht, hk, he⟩ := ridMap_of hm
  simp only [opFn] at hop
  split at hop
  case h_2 => cases hop
  rename_i i k ex ek
  rw [ex] at hx
  rw [← hrs i (by simp [need, ex, SV.nm])] at hop
  split at hop
  case h_2 => cases hop
  rename_i l hres
  simp only [Option.some.injEq] at hop; subst hop
  have hs := hr.sat i
  rw [hres] at hs
  obtain ⟨b, es, cl, hb1, hb2, hmi⟩ := hs
  obtain ⟨b', cap, hb3, hv⟩ := hx
  rw [hb1] at hb3
  simp only [Option.some.injEq, Bd.mk.injEq, Addr.mk.injEq] at hb3
  obtain ⟨⟨rfl, _⟩, _⟩ := hb3
  have hobj := sub_single.1 (hb2 ▸ hr.sub i)
  have hky := keyOf2_den ek hy
  have hfind := rid_find (w := w) hk k es.toList l hmi.reads
  have hlen : es.size = l.length := by have := congrArg List.length hmi.reads; simpa using this
  have hexec : ∀ w' , (Builtin.delete_ c.argTypes o.type (c.args.map va)).run P w = .ok (.tuple #[]) w' → (execOp va o).run P w = .ok (.value (.tuple #[])) w' := by
    intro w' hw
    simp only [execOp, h, resolve, hc, Sem.run_bind, Sem.run_pure, Result.andThen_ok, invoke, builtin, hw]
  have hd1 : ∀ j, (l.findIdx? (fun e => e.1 == k)) = some j → ∃ e, es.toList[j]? = some e := by
    intro j hj
    have hlt : j < l.length := by
      have := List.findIdx?_eq_some_iff_findIdx_eq.1 hj
      exact this.1
    exact ⟨es.toList[j]'(by simp; omega), by simp [show j < es.size by omega]⟩
  have hrun : ∃ ob', (Builtin.delete_ c.argTypes o.type (c.args.map va)).run P w = .ok (.tuple #[]) (setB w b ob') ∧ (Res.rmap (rdel l k)).Sat hf β (β i) (single b ob') := by
    unfold Builtin.delete_
    rw [has]
    simp only [hts, List.map_toArray, List.map_cons, List.map_nil, List.getElem?_toArray, List.getElem?_cons_zero, List.getElem?_cons_succ, hv, hky,
      Sem.run_bind, run_underlying ht, Result.andThen_ok, run_getMap hobj, rid_check hk, hfind]
    rw [eraseP_idx]
    cases hfi : l.findIdx? (fun e => e.1 == k) with
    | none =>
      refine ⟨.map es cl, by simp [run_setMap hobj], b, es, cl, hb1, rfl, hmi⟩
    | some j =>
      obtain ⟨e, he'⟩ := hd1 j hfi
      refine ⟨.map (es.eraseIdxIfInBounds j) cl, by simp only [Option.bind_some, he', Option.map_some]; simp [run_setMap hobj], b, _, cl, hb1, rfl, ?_⟩
      have htl : (es.eraseIdxIfInBounds j).toList = es.toList.eraseIdx j := by simp
      refine ⟨?_, ?_, ?_⟩
      · have key : ∀ {α γ : Type} (f : α → γ) (l : List α) (i : Nat), (l.eraseIdx i).map f = (l.map f).eraseIdx i := by
          intro α γ f l
          induction l with
          | nil => intro i; rfl
          | cons x l ih => intro i; cases i <;> simp [ih]
        rw [htl, key, hmi.reads, ← key]
      · rw [htl]; exact fun e he => hmi.below e (List.mem_of_mem_eraseIdx he)
      · rw [htl]; exact hmi.once.sublist (List.eraseIdx_sublist _ _)
  obtain ⟨ob', h1, h2⟩ := hrun
  exact done_write hr hn hb2 (v := .tuple #[]) trivial (.inr (hexec _ h1)) h2

theorem run_len0 {w : World} {t : TypeId} {ts : Array TypeId} {ty : TypeId} {s : ByteArray} (h : ts[0]? = some t) (ht : P.underlying t = some .string) : (Builtin.len_ ts ty #[.string s]).run P w = .ok (.int .i64 s.size) w := by
  simp [Builtin.len_, h, run_underlying ht, goInt]
theorem run_len1 {w : World} {t e : TypeId} {ts : Array TypeId} {ty : TypeId} {a : Option Addr} {n c : Nat} (h : ts[0]? = some t) (ht : P.underlying t = some (.slice e)) : (Builtin.len_ ts ty #[.slice a n c]).run P w = .ok (.int .i64 n) w := by
  simp [Builtin.len_, h, run_underlying ht, goInt]
theorem run_len2 {w : World} {t k e : TypeId} {ts : Array TypeId} {ty : TypeId} {b : Nat} {es : Array MapEntry} {c : Nat} (h : ts[0]? = some t) (ht : P.underlying t = some (.map k e)) (hb : w.heap[b]? = some (.map es c)) :
    (Builtin.len_ ts ty #[.map (some b)]).run P w = .ok (.int .i64 es.size) w := by
  simp [Builtin.len_, h, run_underlying ht, run_getMap hb, goInt]

theorem snd_len {c : Call} {t : TypeId} {d : TypeDesc} {x : Operand} {k : Nat} (h : o.op = .call c) (hc : c.callee = .builtin .len) (hts : c.argTypes[0]? = some t) (has : c.args = #[x]) (hd0 : P.underlying t = some d)
    (hd1 : lenD d = some k) : Sound P o (.len k x) := by
  intro ρ va hf w β res hp n rs r hd hrs hr hn hop ho
  have hx := hd x (by simp [SOp.operands])
  have hexec : ∀ v, (Builtin.len_ c.argTypes o.type #[va x]).run P w = .ok v w → (execOp va o).run P w = .ok (.value v) w := by
    intro v hw
    simp only [execOp, h, resolve, hc, has, List.map_toArray, List.map_cons, List.map_nil, Sem.run_bind, Sem.run_pure, Result.andThen_ok, invoke, builtin, hw]
  simp only [opFn] at hop
  split at hop
  · rename_i s ex
    rw [ex] at hx
    split at hop
    case isFalse => cases hop
    rename_i hk; subst hk
    have hd' : d = .string := by cases d <;> simp [lenD] at hd1; rfl
    subst hd'
    simp only [Option.some.injEq] at hop; subst hop
    have hv := hx.1
    rw [hv] at hexec
    exact done_pure hr hn (hexec (.int .i64 s.size) (run_len0 hts hd0)) ⟨rfl, trivial⟩
  · rename_i a m c' ex
    rw [ex] at hx
    split at hop
    case isFalse => cases hop
    rename_i hk; subst hk
    obtain ⟨e, rfl⟩ : ∃ e, d = .slice e := by cases d <;> simp [lenD] at hd1; exact ⟨_, rfl⟩
    simp only [Option.some.injEq] at hop; subst hop
    have hv := hx.1
    rw [hv] at hexec
    exact done_pure hr hn (hexec (.int .i64 m) (run_len1 hts hd0)) ⟨rfl, trivial⟩
  · rename_i i sz lo m mc ex
    rw [ex] at hx
    split at hop
    case isFalse => cases hop
    rename_i hk; subst hk
    obtain ⟨e, rfl⟩ : ∃ e, d = .slice e := by cases d <;> simp [lenD] at hd1; exact ⟨_, rfl⟩
    simp only [Option.some.injEq] at hop; subst hop
    obtain ⟨_, _, _, _, _, _, _, hv, _⟩ := hx
    rw [hv] at hexec
    exact done_pure hr hn (hexec (.int .i64 m) (run_len1 hts hd0)) ⟨rfl, trivial⟩
  · rename_i sz m mc f ex
    rw [ex] at hx
    split at hop
    case isFalse => cases hop
    rename_i hk; subst hk
    obtain ⟨e, rfl⟩ : ∃ e, d = .slice e := by cases d <;> simp [lenD] at hd1; exact ⟨_, rfl⟩
    simp only [Option.some.injEq] at hop; subst hop
    obtain ⟨_, _, _, hv, _⟩ := hx
    rw [hv] at hexec
    exact done_pure hr hn (hexec (.int .i64 m) (run_len1 hts hd0)) ⟨rfl, trivial⟩
  · rename_i i ex
    rw [ex] at hx
    split at hop
    case isFalse => cases hop
    rename_i hk; subst hk
    obtain ⟨a, e, rfl⟩ : ∃ a e, d = .map a e := by cases d <;> simp [lenD] at hd1; exact ⟨_, _, rfl⟩
    rw [← hrs i (by simp [need, ex])] at hop
    split at hop
    case h_2 => cases hop
    rename_i l hres
    simp only [Option.some.injEq] at hop; subst hop
    have hs := hr.sat i
    rw [hres] at hs
    obtain ⟨b, es, cl, hb1, hb2, hmi⟩ := hs
    obtain ⟨b', cap, hb3, hv⟩ := hx
    rw [hb1] at hb3
    simp only [Option.some.injEq, Bd.mk.injEq, Addr.mk.injEq] at hb3
    obtain ⟨⟨rfl, _⟩, _⟩ := hb3
    have hobj := sub_single.1 (hb2 ▸ hr.sub i)
    rw [hv] at hexec
    have hlen : es.size = l.length := by have := congrArg List.length hmi.reads; simpa using this
    exact done_pure hr hn (hexec (.int .i64 es.size) (run_len2 hts hd0 hobj)) ⟨by rw [hlen], trivial⟩
  · cases hop

theorem ints_den {β : Env} {ρ : Operand → SV} {va : Operand → Value} : ∀ (xs : List Operand) (l : List Int), (∀ x ∈ xs, SV.Den β (ρ x) (va x)) → ints ρ xs = some l → xs.map va = l.map (.int .i64)
  | [], l, _, h => by simp only [ints, Option.some.injEq] at h; subst h; rfl
  | x :: xs, l, hd, h => by
    simp only [ints] at h
    split at h
    case h_2 => cases h
    rename_i c r e1 e2
    simp only [Option.some.injEq] at h; subst h
    have := hd x (by simp)
    rw [e1] at this
    have h2 := ints_den xs r (fun y hy => hd y (by simp [hy])) e2
    simp only [List.map_cons, h2]
    rw [this.1]

theorem snd_minmax {c : Call} {isMax : Bool} (h : o.op = .call c) (hc : c.callee = .builtin (if isMax then .max else .min)) : Sound P o (.minmax isMax c.args.toList) := by
  intro ρ va hf w β res hp n rs r hd hrs hr hn hop ho
  simp only [opFn] at hop
  split at hop
  case h_2 => cases hop
  rename_i a l hl
  simp only [Option.some.injEq] at hop; subst hop
  have hi := ints_den c.args.toList (a :: l) (fun x hx => hd x hx) hl
  have hargs : (c.args.map va).toList = (a :: l).map (.int .i64) := by rw [← hi]; simp
  have hfold : ∀ (l : List Int) (a : Int), ((l.map (Value.int .i64)).foldlM (if isMax then Builtin.max2 else Builtin.min2) (.int .i64 a)).run P w =
      .ok (.int .i64 (l.foldl (fun x y => if isMax then max x y else min x y) a)) w := by
    intro l
    induction l with
    | nil => intro a; simp
    | cons b l ih =>
      intro a
      simp only [List.map_cons, List.foldlM_cons, Sem.run_bind, List.foldl_cons]
      have : ((if isMax then Builtin.max2 else Builtin.min2) (.int .i64 a) (.int .i64 b)).run P w = .ok (.int .i64 (if isMax then max a b else min a b)) w := by
        cases isMax
        · simp only [Bool.false_eq_true, if_false, Builtin.min2, Sem.run_pure]
          congr 2
          omega
        · simp only [if_true, Builtin.max2, Sem.run_pure]
          congr 2
          omega
      rw [this, Result.andThen_ok, ih]
  refine done_pure hr hn (v := .int .i64 (l.foldl (fun x y => if isMax then max x y else min x y) a)) ?_ ⟨rfl, trivial⟩
  cases isMax
  · simp only [Bool.false_eq_true, if_false] at hc
    have := hfold l a
    simp only [Bool.false_eq_true, if_false] at this
    simp only [execOp, h, resolve, hc, Sem.run_bind, Sem.run_pure, Result.andThen_ok, invoke, builtin, Builtin.min_, hargs, List.map_cons, this]
    simp
  · simp only [if_true] at hc
    have := hfold l a
    simp only [if_true] at this
    simp only [execOp, h, resolve, hc, Sem.run_bind, Sem.run_pure, Result.andThen_ok, invoke, builtin, Builtin.max_, hargs, List.map_cons, this]
    simp

end
end Sx

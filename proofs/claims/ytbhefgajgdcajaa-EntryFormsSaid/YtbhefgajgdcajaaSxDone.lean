/- A function's contract out of its formula. -/
import Derived.Test.YtbhefgajgdcajaaSxFun
set_option linter.unusedVariables false
set_option linter.unusedSimpArgs false
namespace Sx
open Go

def enumR : Nat → List Res → List (Nat × Res)
  | _, [] => []
  | k, r :: l => (k, r) :: enumR (k + 1) l

theorem lk_enumR : ∀ (l : List Res) (k i : Nat), k ≤ i → lk (enumR k l) i = getR l (i - k)
  | [], k, i, _ => by simp [enumR, lk, getR]
  | r :: l, k, i, h => by
    simp only [enumR, lk]
    split
    · rename_i e; subst e; simp [getR]
    · rw [lk_enumR l (k + 1) i (by omega)]
      rw [show i - k = (i - (k + 1)) + 1 by omega]
      simp [getR]

def retellL (rs : List (Nat × Res)) (ν : Nat → Option Nat) (lo hi : Nat) : List Res → List Res → Prop
  | [], [] => True
  | a :: l, b :: m => retell rs ν lo hi a b ∧ retellL rs ν lo hi l m
  | _, _ => False

def emptyL : List Res → Prop
  | [] => True
  | r :: l => emptyR r ∧ emptyL l

theorem retellL_length {rs : List (Nat × Res)} {ν : Nat → Option Nat} {lo hi : Nat} : ∀ {l m : List Res}, retellL rs ν lo hi l m → l.length = m.length
  | [], [], _ => rfl
  | _ :: l, _ :: m, h => by simp [retellL_length h.2]
  | [], _ :: _, h => h.elim
  | _ :: _, [], h => h.elim

def mkRet : List SV → SV
  | [v] => v
  | l => .tup l

def roOk (ρ ρ' : List Res) : Bool := (List.range ρ'.length).all fun j => !(decide (ρ.length ≤ j) || owned (getR ρ j)) || !isRo (getR ρ' j)

/-- A result: out of a slot, or out of a variable's cells. -/
inductive RC where
  | tmp (t : Nat)
  | cell (a : Nat) (agg : Bool) (n : Nat)

def compileRes (P : Program) : List ResultVar → Option (List RC)
  | [] => some []
  | .tmp t :: l => (compileRes P l).map (.tmp t :: ·)
  | .cell a t :: l => match cLoad P t (.tmp a), compileRes P l with
    | some (.load agg n _), some r => some (.cell a agg n :: r)
    | _, _ => none

def rdOne (sl : List SV) (rs : List (Nat × Res)) : RC → Option (Prop × SV)
  | .tmp t => some (True, sl.getD t .any)
  | .cell a agg n => match sl.getD a .any with
    | .cv (.ptr i sz idx fld) => match rget (lk rs i) sz idx fld n with
      | some (p, l) => some (p, svOf agg l)
      | none => none
    | _ => none

def rdAll (sl : List SV) (rs : List (Nat × Res)) : List RC → Option (Prop × List SV)
  | [] => some (True, [])
  | r :: l => match rdOne sl rs r, rdAll sl rs l with
    | some (p, v), some (q, vs) => some (p ∧ q, v :: vs)
    | _, _ => none

/-- What a function comes back with: 'extra': the names that it hands out beside those it was given; behind them, fresh names of nothing ('emp': what they hold). -/
structure RetOk (ts : List RC) (ρ : List Res) (st : St) (extra : List Nat) (emp : List Res) (v : SV) (ρ' : List Res) : Prop where
  nd : nodupB (List.range ρ.length ++ extra) = true
  len : (extra.length + emp.length).ble 8 = true
  val : match rdAll st.sl st.rs ts with
    | some (p, vs) => p ∧ slotW st.rs (nuOf (List.range ρ.length ++ extra)) (ρ.length + extra.length) (ρ.length + extra.length + emp.length) v (mkRet vs)
    | none => False
  res : retellL st.rs (nuOf (List.range ρ.length ++ extra)) (ρ.length + extra.length) (ρ.length + extra.length + emp.length) ρ' ((List.range ρ.length ++ extra).map fun i => lk st.rs i)
  vain : emptyL emp
  ro : roOk ρ (ρ' ++ emp) = true

def RetC (ts : List RC) (ρ : List Res) (post : SV → List Res → Prop) : Ex → St → Prop
  | .exit _, _ => False
  | _, st => ∃ F, fzL st.rs F ∧ ∃ extra emp v ρ', RetOk ts ρ ⟨st.sl, setRs st.rs F, st.nx⟩ extra emp v ρ' ∧ post v (ρ' ++ emp)

theorem RetC.back {ts : List RC} {ρ : List Res} {post : SV → List Res → Prop} {st : St} (extra : List Nat) {v : SV} {ρ' : List Res} (hp : post v ρ') (h : RetOk ts ρ st extra [] v ρ') : RetC ts ρ post .ret st :=
  ⟨[], trivial, extra, [], v, ρ', h, by rw [List.append_nil]; exact hp⟩
theorem RetC.off {ts : List RC} {ρ : List Res} {post : SV → List Res → Prop} {st : St} (extra : List Nat) {v : SV} {ρ' : List Res} (hp : post v ρ') (h : RetOk ts ρ st extra [] v ρ') : RetC ts ρ post .normal st :=
  ⟨[], trivial, extra, [], v, ρ', h, by rw [List.append_nil]; exact hp⟩
/-- The same, where names' memory is never written again. -/
theorem RetC.fz {ts : List RC} {ρ : List Res} {post : SV → List Res → Prop} {st : St} (F : List (Nat × Res)) (extra : List Nat) {v : SV} {ρ' : List Res} (hp : post v ρ') (hF : fzL st.rs F) (h : RetOk ts ρ ⟨st.sl, setRs st.rs F, st.nx⟩ extra [] v ρ') : RetC ts ρ post .ret st :=
  ⟨F, hF, extra, [], v, ρ', h, by rw [List.append_nil]; exact hp⟩

theorem slotsW_map {rs : List (Nat × Res)} {lo hi : Nat} (ν : Nat → Option Nat) : ∀ l : List SV, slotsW rs ν lo hi (l.map (·.ren ν)) l
  | [] => trivial
  | a :: l => ⟨slotW_ren _, slotsW_map ν l⟩

theorem ressW_emp (names : List Nat) (rs : List (Nat × Res)) (e : Nat) : ∀ (emp : List Res) (k : Nat), names.length ≤ k → k + emp.length = names.length + e → emptyL emp → ressW (nuOf names) names e rs (enumR k emp)
  | [], _, _, _, _ => trivial
  | r :: l, k, h1, h2, h => ⟨.inr ⟨h1, by simp at h2; omega, h.1⟩, ressW_emp names rs e l (k + 1) (by omega) (by simp at h2; omega) h.2⟩

theorem ressW_enum (names : List Nat) (rs : List (Nat × Res)) (emp : List Res) (he : emptyL emp) : ∀ (ρ' : List Res) (k : Nat) (ns : List Nat), names.drop k = ns → k ≤ names.length →
    retellL rs (nuOf names) names.length (names.length + emp.length) ρ' (ns.map fun i => lk rs i) → ressW (nuOf names) names emp.length rs (enumR k (ρ' ++ emp))
  | [], k, [], hd, hk, _ => by
    have := congrArg List.length hd
    simp at this
    exact ressW_emp names rs _ emp k (by omega) (by omega) he
  | [], k, _ :: _, _, _, h => h.elim
  | r :: ρ', k, [], _, _, h => h.elim
  | r :: ρ', k, n :: ns, hd, _, h => by
    have hlt : k < names.length := by
      have := congrArg List.length hd
      simp at this; omega
    have hk : names[k] = n := by
      have h1 := List.drop_eq_getElem_cons hlt
      rw [hd] at h1
      exact (List.cons.inj h1).1.symm
    refine ⟨.inl ⟨hlt, ?_⟩, ressW_enum names rs emp he ρ' (k + 1) ns ?_ (by omega) h.2⟩
    · rw [List.getD_eq_getElem?_getD, List.getElem?_eq_getElem hlt, Option.getD_some, hk]; exact h.1
    · have h1 := List.drop_eq_getElem_cons hlt
      rw [hd] at h1
      exact (List.cons.inj h1).2.symm

theorem prefixB_range (k : Nat) (extra : List Nat) : prefixB k (List.range k ++ extra) = true := by
  simp only [prefixB, Bool.and_eq_true, decide_eq_true_eq, List.all_eq_true, List.mem_range, beq_iff_eq]
  refine ⟨by simp, fun i hi => ?_⟩
  rw [List.getD_eq_getElem?_getD, List.getElem?_append_left (by simpa using hi)]
  simp [hi]

theorem RetOk.weak {ts : List RC} {ρ : List Res} {st : St} {extra : List Nat} {emp : List Res} {v : SV} {ρ' : List Res} (h : RetOk ts ρ st extra emp v ρ') :
    WeakBy ρ.length (List.range ρ.length ++ extra) emp.length st ⟨st.sl.map (·.ren (nuOf (List.range ρ.length ++ extra))), enumR 0 (ρ' ++ emp), (ρ' ++ emp).length⟩ := by
  have hl : (List.range ρ.length ++ extra).length = ρ.length + extra.length := by simp
  have hr := retellL_length h.res
  simp only [List.length_map] at hr
  refine ⟨prefixB_range _ _, h.nd, by simp only [List.length_append, hr], slotsW_map _ _, ressW_enum _ _ _ h.vain _ 0 _ rfl (Nat.zero_le _) ?_⟩
  rw [hl]; exact h.res

theorem renL_map (ν : Nat → Option Nat) : ∀ l : List SV, SV.renL ν l = l.map (·.ren ν)
  | [] => rfl
  | a :: l => by simp [SV.renL, renL_map ν l]

theorem mkRet_ren (ν : Nat → Option Nat) (l : List SV) : (mkRet l).ren ν = mkRet (l.map (·.ren ν)) := by
  match l with
  | [] => simp [mkRet, SV.ren, SV.renL]
  | [v] => simp [mkRet]
  | a :: b :: l => simp [mkRet, SV.ren, renL_map]

theorem run_cLoad {P : Program} {t : TypeId} {a : Nat} {x : Operand} {agg : Bool} {n : Nat} (hc : cLoad P t (.tmp a) = some (.load agg n x)) :
    (∀ (w : World) (ad : Addr), (loadVar t ad).run P w = if agg then ((loadCells ad n).run P w).andThen fun cs w' => .ok (.agg cs) w' else (load ad).run P w) ∧ (agg = false → n = 1) := by
  unfold cLoad at hc
  split at hc
  · rename_i d i h1 h2
    have hag : ∀ w : World, (isAgg t).run P w = .ok (isAggD d) w := fun w => by
      rw [run_isAgg_of h1]; cases d <;> rfl
    split at hc <;> (rename_i hd; simp only [Option.some.injEq, SOp.load.injEq] at hc; obtain ⟨rfl, rfl, rfl⟩ := hc)
    · exact ⟨fun w ad => by simp [loadVar, hag, hd, run_sizeOf_of h2], fun e => by cases e⟩
    · exact ⟨fun w ad => by simp [loadVar, hag, hd], fun _ => rfl⟩
  · cases hc

theorem run_cell {P : Program} {t : TypeId} {agg : Bool} {n : Nat} (h1 : ∀ (w : World) (ad : Addr), (loadVar t ad).run P w = if agg then ((loadCells ad n).run P w).andThen fun cs w' => .ok (.agg cs) w' else (load ad).run P w) (h2 : agg = false → n = 1)
    {hf : Fr} {w : World} {β : Env} {res : Nat → Res} {hh : Nat → Hp} (hr : Rel hf w β res hh) {i sz idx fld : Nat} {p : Prop} {l : List CV} (hg : rget (res i) sz idx fld n = some (p, l)) (hp : p) {x : Value} (hx : CV.Den β (.ptr i sz idx fld) x) :
    ∃ v, (do loadVar t (← asAddr x) : Sem Value).run P w = .ok v w ∧ SV.Den β (svOf agg l) v := by
  obtain ⟨ad, vs, rfl, _, hlen, hden, hcell⟩ := rget_world hr hg hp hx
  have hrun : (do loadVar t (← asAddr (.pointer (some ad))) : Sem Value).run P w = (loadVar t ad).run P w := by
    simp [asAddr]
  rw [hrun, h1]
  cases agg with
  | true =>
    refine ⟨.agg vs.toArray, ?_, vs, rfl, hden⟩
    rw [if_pos rfl, run_loadCells hlen hcell]; rfl
  | false =>
    have e1 := h2 rfl
    subst e1
    have hx0 := hcell 0 (by omega)
    obtain ⟨v, rfl⟩ : ∃ v, vs = [v] := by
      match vs, hlen with
      | [v], _ => exact ⟨v, rfl⟩
    obtain ⟨c, rfl⟩ : ∃ c, l = [c] := by
      have hl2 := CV.denL_length _ _ hden
      match l, hl2 with
      | [c], _ => exact ⟨c, rfl⟩
    refine ⟨v, ?_, hden.1⟩
    simp only [Bool.false_eq_true, if_false]
    have e0 : ad.add 0 = ad := by simp [Addr.add]
    rw [e0] at hx0
    rw [Sx.run_load hx0]

def getRV (tmps : Array Value) : ResultVar → Sem Value
  | .tmp t => pure (tmps.getD t undef)
  | .cell a t => do loadVar t (← asAddr (tmps.getD a undef))

theorem results_mapM {P : Program} {tmps : Array Value} {sl : List SV} {rs : List (Nat × Res)} {hf : Fr} {w : World} {β : Env} {hh : Nat → Hp} (hr : Rel hf w β (lk rs) hh) (hfit : ∀ i, SV.Den β (sl.getD i .any) (tmps.getD i undef)) :
    ∀ {rv : List ResultVar} {ts : List RC} {p : Prop} {vs : List SV}, compileRes P rv = some ts → rdAll sl rs ts = some (p, vs) → p → ∃ xs, (List.mapM (getRV tmps) rv).run P w = .ok xs w ∧ SV.DenL β vs xs
  | [], ts, p, vs, hc, hd, hp => by
    simp only [compileRes, Option.some.injEq] at hc; subst hc
    simp only [rdAll, Option.some.injEq, Prod.mk.injEq] at hd
    obtain ⟨_, rfl⟩ := hd
    exact ⟨[], rfl, trivial⟩
  | .tmp t :: l, ts, p, vs, hc, hd, hp => by
    simp only [compileRes] at hc
    cases hl : compileRes P l with
    | none => rw [hl] at hc; cases hc
    | some ts' =>
      rw [hl] at hc
      simp only [Option.map_some, Option.some.injEq] at hc; subst hc
      simp only [rdAll, rdOne] at hd
      split at hd
      case h_2 => cases hd
      rename_i q v q' vs' e1 e2
      simp only [Option.some.injEq, Prod.mk.injEq] at e1 hd
      obtain ⟨rfl, rfl⟩ := e1
      obtain ⟨rfl, rfl⟩ := hd
      obtain ⟨xs, h1, h2⟩ := results_mapM hr hfit hl e2 hp.2
      refine ⟨tmps.getD t undef :: xs, ?_, hfit t, h2⟩
      rw [List.mapM_cons]
      simp [getRV, h1]
  | .cell a t :: l, ts, p, vs, hc, hd, hp => by
    simp only [compileRes] at hc
    split at hc
    case h_2 => cases hc
    rename_i agg n x r e1 e2
    simp only [Option.some.injEq] at hc; subst hc
    simp only [rdAll, rdOne] at hd
    split at hd
    case h_2 => cases hd
    rename_i q v q' vs' e3 e4
    simp only [Option.some.injEq, Prod.mk.injEq] at hd
    obtain ⟨rfl, rfl⟩ := hd
    split at e3
    case h_2 => cases e3
    rename_i i sz idx fld e5
    split at e3
    case h_2 => cases e3
    rename_i p0 l0 e6
    simp only [Option.some.injEq, Prod.mk.injEq] at e3
    obtain ⟨rfl, rfl⟩ := e3
    obtain ⟨k1, k2⟩ := run_cLoad e1
    have hx := hfit a
    rw [e5] at hx
    obtain ⟨y, hy1, hy2⟩ := run_cell k1 k2 hr e6 hp.1 hx
    obtain ⟨xs, h1, h2⟩ := results_mapM hr hfit e2 e4 hp.2
    refine ⟨y :: xs, ?_, hy2, h2⟩
    rw [List.mapM_cons]
    have : (getRV tmps (.cell a t)).run P w = .ok y w := hy1
    simp [this, h1]

theorem results_run {P : Program} {fn : Func} {ts : List RC} {tmps : Array Value} {sl : List SV} {rs : List (Nat × Res)} {hf : Fr} {w : World} {β : Env} {hh : Nat → Hp} (hr : Rel hf w β (lk rs) hh) (hfit : ∀ i, SV.Den β (sl.getD i .any) (tmps.getD i undef))
    (hc : compileRes P fn.results.toList = some ts) {p : Prop} {vs : List SV} (hd : rdAll sl rs ts = some (p, vs)) (hp : p) : ∃ rv, (results fn tmps).run P w = .ok rv w ∧ SV.Den β (mkRet vs) rv := by
  obtain ⟨xs, h1, h2⟩ := results_mapM hr hfit hc hd hp
  have he : results fn tmps = (do
      let vs ← fn.results.mapM (getRV tmps)
      pure (if h : vs.size = 1 then vs[0] else .tuple vs)) := by
    unfold results
    congr 2
  have hm : (fn.results.mapM (getRV tmps)).run P w = .ok xs.toArray w := by
    rw [Array.mapM_eq_mapM_toList]
    simp [h1]
  refine ⟨if h : xs.toArray.size = 1 then xs.toArray[0] else .tuple xs.toArray, by rw [he]; simp [hm], ?_⟩
  match vs, xs, h2 with
  | [v], [x], h2 => simpa [mkRet] using h2.1
  | [], [], h2 => exact ⟨[], by simp, trivial⟩
  | v :: u :: vs, x :: y :: xs, h2 => exact ⟨x :: y :: xs, by simp, h2⟩

theorem denL_getD {β : Env} : ∀ {l : List SV} {vs : List Value} (i : Nat), SV.DenL β l vs → SV.Den β (l.getD i .any) (vs.getD i undef)
  | [], [], _, _ => trivial
  | _ :: l, _ :: vs, 0, h => h.1
  | _ :: l, _ :: vs, i + 1, h => by simpa using denL_getD i h.2
  | [], _ :: _, _, h => h.elim
  | _ :: _, [], _, h => h.elim

theorem spec_of {P : Program} (hfollow : P.follows .mixedOrders = true) {id : FuncId} {fn : Func} {c : Code} {sc : SC} {ts : List RC} {args : List SV} {ρ : List Res} {post : SV → List Res → Prop}
    (hfn : P.funcs[id]? = some fn) (hb : fn.body = some c) (hc : compileC P fn.ntmps c = some sc.erase) (hres : compileRes P fn.results.toList = some ts) (hlen : args.length ≤ fn.ntmps)
    (h : ∀ hf, wpC P hf ρ.length sc ⟨args ++ List.replicate (fn.ntmps - args.length) .any, enumR 0 ρ, ρ.length⟩ (RetC ts ρ post) ⟨⟩) : Spec P id args ρ post := by
  intro hf w β hh vs hrel hnx hvs
  have hl := SV.denL_length _ _ hvs
  refine calls_of_wp hfn hb ?_
  let cx : Cx := ⟨fn.ntmps, ρ.length, β, w, []⟩
  have hr : RelSt hf cx ⟨args ++ List.replicate (fn.ntmps - args.length) .any, enumR 0 ρ, ρ.length⟩ { tmps := List.toArray vs ++ Array.replicate (fn.ntmps - (List.toArray vs).size) undef, defers := [] } w := by
    refine ⟨⟨β, hh, ⟨?_, fun i => ?_⟩, ?_, hnx, fun _ _ => rfl⟩, by simp only [cx, List.length_append, List.length_replicate]; omega, Nat.le_refl _, Ext.refl _, rfl⟩
    · simp only [Array.size_append, List.size_toArray, Array.size_replicate, cx]; omega
    · by_cases hi : i < vs.length
      · have := denL_getD i hvs
        rw [List.getD_eq_getElem?_getD, List.getElem?_append_left (by omega), ← List.getD_eq_getElem?_getD, Array.getD_eq_getD_getElem?, Array.getElem?_append_left (by simpa using hi)]
        simpa [List.getD_eq_getElem?_getD] using this
      · have : (args ++ List.replicate (fn.ntmps - args.length) SV.any).getD i .any = .any := by
          rw [List.getD_eq_getElem?_getD, List.getElem?_append_right (by omega)]
          simp only [List.getElem?_replicate]
          split <;> rfl
        rw [this]; trivial
    · have : lk (enumR 0 ρ) = getR ρ := by funext i; rw [lk_enumR _ _ _ (Nat.zero_le _)]; rfl
      rw [this]; exact hrel
  have hwp := wpC_sound hfollow sc (code := c) (c := cx) hc (h hf) hr
  refine wp_mono hwp ?_
  rintro e a w' ⟨ex, st, he, hk, hrs⟩
  have main : (∃ F, fzL st.rs F ∧ ∃ extra emp v ρ', RetOk ts ρ ⟨st.sl, setRs st.rs F, st.nx⟩ extra emp v ρ' ∧ post v (ρ' ++ emp)) → a.defers = [] ∧ ∃ rv, (results fn a.tmps).run P w' = .ok rv w' ∧
      ∃ v rv' ρ' β' h', Ending.returned rv = .returned rv' ∧ post v ρ' ∧ SV.Den β' v rv' ∧ (∀ i, i < ρ.length → β' i = β i) ∧ (∀ i, ρ'.length ≤ i → β' i = none) ∧ Rel hf w' β' (getR ρ') h' ∧
      ρ.length ≤ ρ'.length ∧ ρ'.length ≤ ρ.length + 8 ∧ (∀ j, j < ρ'.length → (ρ.length ≤ j ∨ owned (getR ρ j) = true) → isRo (getR ρ' j) = false) ∧ Ext w w' := by
    rintro ⟨F, hF, extra, emp, v, ρ', hok, hpost⟩
    obtain ⟨⟨β1, h1, hfit1, hrel1, _, hB1⟩, hlen', hk', hext, hdef⟩ := hrs.fz F hF
    obtain ⟨β', h', hvia, hemp, hfit, hrel', hnx', hB⟩ := Weak.core _ _ (c := cx) hok.weak hfit1 hrel1 hB1
    have hl : (List.range ρ.length ++ extra).length = ρ.length + extra.length := by simp
    rw [hl] at hemp
    have hr := retellL_length hok.res
    simp only [List.length_map, hl] at hr
    refine ⟨hdef, ?_⟩
    have hval := hok.val
    split at hval
    case h_2 => exact hval.elim
    rename_i p vs' hrd
    obtain ⟨hp, hv⟩ := hval
    obtain ⟨rv, r1, r2⟩ := results_run hrel1 hfit1.den hres hrd hp
    have hlen2 := Nat.le_of_ble_eq_true hok.len
    refine ⟨rv, r1, v, rv, ρ' ++ emp, β', h', rfl, hpost, slotW_den hvia (frzOk_rel hrel1) hemp _ _ _ hv r2, hB, hnx', ?_, by simp; omega, by simp; omega, fun j hj hor => ?_, hext⟩
    · have : lk (enumR 0 (ρ' ++ emp)) = getR (ρ' ++ emp) := by funext i; rw [lk_enumR _ _ _ (Nat.zero_le _)]; rfl
      rw [← this]; exact hrel'
    · have := hok.ro
      simp only [roOk, List.all_eq_true, List.mem_range] at this
      have h3 := this j hj
      have h4 : (decide (ρ.length ≤ j) || owned (getR ρ j)) = true := by simpa using hor
      rw [h4] at h3
      simpa using h3
  cases e <;> simp only [exOf, Option.some.injEq, reduceCtorEq] at he <;> subst he
  · exact main hk
  · exact hk.elim
  · exact main hk

def compileF (P : Program) (fn : Func) : Option (Nat × SC × List RC) :=
  match fn.body with
  | none => none
  | some c => if (fn.name == "runtime.NumGoroutine") = true then none else
    match compileC P fn.ntmps c, compileRes P fn.results.toList with
    | some sc, some ts => some (fn.ntmps, sc, ts)
    | _, _ => none

/-- A contract of a function of the program that can be called. -/
structure FSpec (P : Program) (id : FuncId) (args : List SV) (ρ : List Res) (post : SV → List Res → Prop) : Prop where
  fn : ∃ fn, P.funcs[id]? = some fn ∧ (fn.name == "runtime.NumGoroutine") = false ∧ fn.body.isNone = false
  spec : Spec P id args ρ post

theorem FSpec.cut {P : Program} (hfollow : P.follows .mixedOrders = true) {id : FuncId} {fn : Func} {n : Nat} {sc0 : SC} {ts : List RC} {args : List SV} {ρ : List Res} {post : SV → List Res → Prop} (sc : SC)
    (hfn : P.funcs[id]? = some fn) (hc : compileF P fn = some (n, sc0, ts)) (he : sc.erase = sc0) (hlen : args.length ≤ n)
    (h : ∀ hf, wpC P hf ρ.length sc ⟨args ++ List.replicate (n - args.length) .any, enumR 0 ρ, ρ.length⟩ (RetC ts ρ post) ⟨⟩) : FSpec P id args ρ post := by
  unfold compileF at hc
  split at hc
  · cases hc
  · rename_i c hb
    split at hc
    · cases hc
    · rename_i hn
      split at hc
      case h_2 => cases hc
      rename_i sc' ts' h1 h2
      simp only [Option.some.injEq, Prod.mk.injEq] at hc
      obtain ⟨rfl, rfl, rfl⟩ := hc
      exact ⟨⟨fn, hfn, by simpa using hn, by rw [hb]; rfl⟩, spec_of hfollow hfn hb (he ▸ h1) h2 hlen h⟩

theorem FSpec.of {P : Program} (hfollow : P.follows .mixedOrders = true) {id : FuncId} {fn : Func} {n : Nat} {sc : SC} {ts : List RC} {args : List SV} {ρ : List Res} {post : SV → List Res → Prop}
    (hfn : P.funcs[id]? = some fn) (hc : compileF P fn = some (n, sc, ts)) (hlen : args.length ≤ n)
    (h : ∀ hf, wpC P hf ρ.length sc ⟨args ++ List.replicate (n - args.length) .any, enumR 0 ρ, ρ.length⟩ (RetC ts ρ post) ⟨⟩) : FSpec P id args ρ post := by
  refine FSpec.cut hfollow sc hfn hc ?_ hlen h
  unfold compileF at hc
  split at hc
  · cases hc
  · split at hc
    · cases hc
    · split at hc
      case h_2 => cases hc
      rename_i sc' ts' h1 h2
      simp only [Option.some.injEq, Prod.mk.injEq] at hc
      obtain ⟨rfl, rfl, rfl⟩ := hc
      exact compileC_erase _ h1

theorem FSpec.mono {P : Program} {id : FuncId} {args : List SV} {ρ : List Res} {post post' : SV → List Res → Prop} (h : FSpec P id args ρ post) (hp : ∀ v ρ', post v ρ' → post' v ρ') : FSpec P id args ρ post' := by
  refine ⟨h.fn, fun hf w β hh vs h1 h2 h3 => (h.spec hf w β hh vs h1 h2 h3).mono ?_⟩
  rintro e w' ⟨v, rv, ρ', β', h', e1, e2, e3⟩
  exact ⟨v, rv, ρ', β', h', e1, hp v ρ' e2, e3⟩

theorem lkF {rs : List (Nat × Res)} : ∀ {F : List (Nat × Res)}, (F.map (·.1)).Nodup → ∀ j, j ∈ F.map (·.1) → lk (setRs rs F) j = lk F j := by
  intro F
  induction F generalizing rs with
  | nil => intro _ j hj; cases hj
  | cons p F ih =>
    intro hn j hj
    obtain ⟨i, r⟩ := p
    simp only [List.map_cons, List.nodup_cons] at hn
    simp only [setRs, lk]
    by_cases hji : j = i
    · subst hji
      rw [if_pos rfl, lk_setRs, upds_not hn.1, lk_setR, up_same]
    · rw [if_neg hji]
      exact ih hn.2 j (by simpa [hji] using hj)

theorem lk_none : ∀ {F : List (Nat × Res)} {j : Nat}, j ∉ F.map (·.1) → lk F j = .gone
  | [], _, _ => rfl
  | (i, r) :: F, j, h => by
    simp only [List.map_cons, List.mem_cons, not_or] at h
    simp only [lk]
    rw [if_neg h.1]; exact lk_none h.2

def fitL (ν : Nat → Option Nat) (rs : List (Nat × Res)) : List Res → List Nat → Prop
  | [], [] => True
  | r :: l, n :: ns => fit ν r (lk rs n) ∧ fitL ν rs l ns
  | _, _ => False

theorem fitL_get {ν : Nat → Option Nat} {rs : List (Nat × Res)} : ∀ {l : List Res} {ns : List Nat}, fitL ν rs l ns → ns.length = l.length ∧ ∀ j, j < l.length → fit ν (getR l j) (lk rs (ns.getD j 0))
  | [], [], _ => ⟨rfl, fun j h => by simp at h⟩
  | r :: l, n :: ns, h => by
    obtain ⟨h1, h2⟩ := fitL_get h.2
    refine ⟨by simp [h1], fun j hj => ?_⟩
    match j with
    | 0 => exact h.1
    | j + 1 => simpa [getR] using h2 j (by simpa using hj)
  | [], _ :: _, h => h.elim
  | _ :: _, [], h => h.elim

/-- No name is lent twice where it is given. -/
def disB (ρ : List Res) (ns : List Nat) : Bool := (List.range ρ.length).all fun j => !owned (getR ρ j) || (List.range ρ.length).all fun j' => j' == j || !(ns.getD j' 0 == ns.getD j 0)

theorem lk_upds_congr {res res' : Nat → Res} : ∀ (F : List (Nat × Res)) (i : Nat), (i ∉ F.map (·.1) → res i = res' i) → upds res F i = upds res' F i
  | [], i, h => h (by simp)
  | (j, r) :: F, i, h => by
    simp only [upds]
    refine lk_upds_congr F i fun hi => ?_
    by_cases hij : i = j
    · subst hij; rw [up_same, up_same]
    · rw [up_ne _ _ hij, up_ne _ _ hij]
      exact h (by simp [hij]; simpa using hi)

/-- What is known of the names that are frozen. -/
def restr (rs F : List (Nat × Res)) : List (Nat × Res) := F.map fun p => (p.1, lk rs p.1)

theorem lk_restr {rs : List (Nat × Res)} : ∀ {F : List (Nat × Res)} {j : Nat}, j ∈ F.map (·.1) → lk (restr rs F) j = lk rs j
  | (i, r) :: F, j, h => by
    simp only [restr, List.map_cons, lk]
    by_cases hji : j = i
    · rw [if_pos hji, hji]
    · rw [if_neg hji]
      exact lk_restr (F := F) (by simpa [hji] using h)

theorem restr_names (rs F : List (Nat × Res)) : (restr rs F).map (·.1) = F.map (·.1) := by simp [restr, Function.comp_def]

/-- Names' memory is never written again, in a world of which only these names are known. -/
theorem rel_fz' {hf : Fr} {w : World} {rs F : List (Nat × Res)} {res : Nat → Res} {β : Env} {h : Nat → Hp} (hF : fzL (restr rs F) F) (hres : ∀ i ∈ F.map (·.1), res i = lk rs i) (hn : (F.map (·.1)).Nodup) (hr : Rel hf w β res h) :
    ∃ β' h', β'.nm = β.nm ∧ Env.le β β' ∧ Rel hf w β' (upds res F) h' := by
  have hr0 : Rel hf w β (lk (restr rs F)) h := ⟨hr.frame, hr.sub, hr.disj, hr.apart, fun i => by
    by_cases hi : i ∈ F.map (·.1)
    · rw [lk_restr hi, ← hres i hi]; exact hr.sat i
    · rw [lk_none (by rw [restr_names]; exact hi)]; trivial, hr.fzn⟩
  obtain ⟨β', h', e1, e2, e3, e4⟩ := rel_fz F _ hF hr0
  refine ⟨β', h', e1, e2, e3.frame, e3.sub, e3.disj, e3.apart, fun i => ?_, e3.fzn⟩
  by_cases hi : i ∈ F.map (·.1)
  · have h1 := e3.sat i
    have h2 : upds res F i = lk (setRs (restr rs F) F) i := by
      rw [lk_setRs]
      exact lk_upds_congr F i fun h => absurd hi h
    rw [h2]; exact h1
  · rw [upds_not hi, e4 i hi, e1]
    exact Res.sat_le e2 (hr.sat i)

theorem CallC.of_fz {P : Program} {hf : Fr} {id : FuncId} {args0 : List SV} {ρ0 : List Res} {post : SV → List Res → Prop} (hs : FSpec P id args0 ρ0 post)
    {a b : List CV} {args : List SV} {rs : List (Nat × Res)} {n : Nat} {chk : List Nat → Bool} {C : SV → List (Nat × Res) → List Nat → Prop} {t : Tok C} (F : List (Nat × Res)) (ns : List Nat) (hF : fzL (restr rs F) F) (hnF : nodupB (F.map (·.1)) = true)
    (hchk : chk (ns ++ F.map (·.1)) = true)
    (hargs : slotsW F (nuOf ns) 0 0 args0 (a.map .cv ++ args ++ b.map .cv)) (hfit : fitL (nuOf ns) (setRs rs F) ρ0 ns) (hdis : disB ρ0 ns = true) (hlow : ns.all (fun i => decide (i < n)) = true)
    (hK : ∀ v ρ', post v ρ' → C (v.ren (muOf ns n)) (F ++ (updGiven ns n ρ0 ρ' ++ updNew ns n ρ0 ρ')) (ns ++ F.map (·.1))) : CallC P hf (.cv (.fn (.func id) a b)) args rs n chk C t := by
  obtain ⟨fn, h1, h2, h3⟩ := hs.fn
  obtain ⟨f1, f2⟩ := fitL_get hfit
  have hnd := nodupB_iff hnF
  refine ⟨_, hchk, ?_⟩
  intro res' w β h fv vs hres hrel hfresh hfv hvs
  obtain ⟨β1, h1', e1, e2, e3⟩ := rel_fz' hF (fun i hi => hres i (by simp [hi])) hnd hrel
  have hlkF : ∀ (res : Nat → Res) (j : Nat), j ∈ F.map (·.1) → upds res F j = lk F j := fun res j hj => by
    rw [← lkF (rs := rs) hnd j hj, lk_setRs]
    exact lk_upds_congr F j fun h => absurd hj h
  have hcall : CallP P hf (.cv (.fn (.func id) a b)) args (upds (lk rs) F) n (ns ++ F.map (·.1)) (fun v upd => C v (F ++ upd) (ns ++ F.map (·.1))) := by
    refine CallP.of_spec (args0 := args0) (ρ0 := ρ0) (post := post) hs.spec h1 h2 h3 ns _ (fun i hi => by simp [hi]) f1 ?_ (fun j hj => by rw [← lk_setRs]; exact f2 j hj) ?_ ?_ hK
    · intro w β βc h res'' vs hr'' hres'' hvia hd
      have hz : FrzOk β F := by
        intro j sz m f hj
        have hjF : j ∈ F.map (·.1) := by
          apply Classical.byContradiction
          intro hn
          rw [lk_none hn] at hj; cases hj
        have := hr''.sat j
        rw [hres'' j (by simp only [List.mem_append]; exact .inr hjF), hlkF _ j hjF, hj] at this
        exact Res.sat_mem (fun _ _ h => h) this
      exact slotsW_den hvia hz (fun j h1 h2 => by omega) _ _ _ hargs hd
    · intro j hj ho j' hj' hne he
      simp only [disB, List.all_eq_true, List.mem_range] at hdis
      have := hdis j hj
      rw [ho] at this
      simp only [Bool.not_true, Bool.false_or, List.all_eq_true, List.mem_range] at this
      have := this j' hj'
      simp only [Bool.or_eq_true, beq_iff_eq, Bool.not_eq_true', beq_eq_false_iff_ne] at this
      rcases this with h | h
      · exact hne h
      · exact h he
    · intro i hi
      simpa using List.all_eq_true.1 hlow i hi
  have hres2 : ∀ i ∈ ns ++ F.map (·.1), upds res' F i = upds (lk rs) F i := fun i hi => lk_upds_congr F i fun _ => hres i hi
  obtain ⟨id', fs, cs, fn', k1, k2, k3, k4, k5⟩ := hcall (upds res' F) w β1 h1' fv vs hres2 e3 (fun j hj => by rw [e1]; exact hfresh j hj) (SV.den_le e2 _ _ hfv) (SV.denL_le e2 _ _ hvs)
  refine ⟨id', fs, cs, fn', k1, k2, k3, k4, k5.mono ?_⟩
  rintro e w' ⟨v, rv, upd, β', h', q1, q2, q3, q4, q5, q6, q7, q8⟩
  refine ⟨v, rv, F ++ upd, β', h', q1, q2, q3, Env.le_trans e2 q4, fun i hi => by rw [q5 i hi, e1], by rw [upds_append]; exact q6, fun p hp => ?_, q8⟩
  rcases List.mem_append.1 hp with hp | hp
  · have : p.1 ∈ F.map (·.1) := List.mem_map.2 ⟨p, hp, rfl⟩
    simp only [List.mem_append]
    exact .inl (.inr this)
  · exact q7 p hp

theorem CallC.of_spec {P : Program} {hf : Fr} {id : FuncId} {args0 : List SV} {ρ0 : List Res} {post : SV → List Res → Prop} (hs : FSpec P id args0 ρ0 post)
    {a b : List CV} {args : List SV} {rs : List (Nat × Res)} {n : Nat} {chk : List Nat → Bool} {C : SV → List (Nat × Res) → List Nat → Prop} {t : Tok C} (ns : List Nat) (hchk : chk ns = true)
    (hargs : slotsW [] (nuOf ns) 0 0 args0 (a.map .cv ++ args ++ b.map .cv)) (hfit : fitL (nuOf ns) rs ρ0 ns) (hdis : disB ρ0 ns = true) (hlow : ns.all (fun i => decide (i < n)) = true)
    (hK : ∀ v ρ', post v ρ' → C (v.ren (muOf ns n)) (updGiven ns n ρ0 ρ' ++ updNew ns n ρ0 ρ') ns) : CallC P hf (.cv (.fn (.func id) a b)) args rs n chk C t := by
  have h := CallC.of_fz (P := P) (hf := hf) (C := C) (t := t) hs [] ns trivial rfl (chk := chk) (by simpa using hchk) hargs hfit hdis hlow (fun v ρ' hp => by simpa using hK v ρ' hp)
  exact h

end Sx

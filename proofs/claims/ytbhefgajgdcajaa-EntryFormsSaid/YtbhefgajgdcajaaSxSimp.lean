/- The formula's rows as 'simp' uses them: none is true by unfolding alone, so what is closed stays closed. -/
import Derived.Test.YtbhefgajgdcajaaSxDone
set_option linter.unusedVariables false
set_option linter.unusedSimpArgs false
namespace Sx
open Go
section
variable {P : Program} {hf : Fr} {kp nm nc : Nat}

theorem wpC_skip {st : St} {K : Ex → St → Prop} {t : Tok K} : wpC P hf kp .skip st K t = K .normal st := by simp only [wpC]
theorem wpC_reg {N : Nat} {L : List SO} {sl : List SV} {rs : List (Nat × Res)} {nx : Nat} {K : Ex → St → Prop} {t : Tok K} :
    wpC P hf kp (.region false N L) ⟨sl, rs, nx⟩ K t = Fs P hf nx (nx + N) L sl rs (fun sl rs => K .normal ⟨sl, rs, nx + N + 8 * N⟩) ⟨⟩ := by simp only [wpC]
theorem wpC_draw {N : Nat} {L : List SO} {sl : List SV} {rs : List (Nat × Res)} {nx : Nat} {K : Ex → St → Prop} {t : Tok K} :
    wpC P hf kp (.region true N L) ⟨sl, rs, nx⟩ K t = Fc P hf nx (nx + N) true L sl rs [] (fun sl rs => K .normal ⟨sl, rs, nx + N + 8 * N⟩) ⟨⟩ := by simp only [wpC]

def seqK (P : Program) (hf : Fr) (kp : Nat) (b : SC) (K : Ex → St → Prop) (t : Tok K) : Ex → St → Prop := fun e st' => match e with
    | .normal => wpC P hf kp b st' K t
    | .exit id => K (.exit id) st'
    | .ret => K .ret st'
theorem seqK_n {b : SC} {st : St} {K : Ex → St → Prop} {t : Tok K} : seqK P hf kp b K t .normal st = wpC P hf kp b st K t := by simp only [seqK]
theorem seqK_e {b : SC} {st : St} {K : Ex → St → Prop} {t : Tok K} {id : Nat} : seqK P hf kp b K t (.exit id) st = K (.exit id) st := by simp only [seqK]
theorem seqK_r {b : SC} {st : St} {K : Ex → St → Prop} {t : Tok K} : seqK P hf kp b K t .ret st = K .ret st := by simp only [seqK]

def blockK (id : Nat) (K : Ex → St → Prop) : Ex → St → Prop := fun e st' => match e with
    | .normal => K .normal st'
    | .exit i => if i = id then K .normal st' else K (.exit i) st'
    | .ret => K .ret st'
theorem blockK_n {id : Nat} {st : St} {K : Ex → St → Prop} : blockK id K .normal st = K .normal st := by simp only [blockK]
theorem blockK_e {id i : Nat} {st : St} {K : Ex → St → Prop} : blockK id K (.exit i) st = if i = id then K .normal st else K (.exit i) st := by simp only [blockK]
theorem blockK_r {id : Nat} {st : St} {K : Ex → St → Prop} : blockK id K .ret st = K .ret st := by simp only [blockK]

theorem wpC_seq {a b : SC} {st : St} {K : Ex → St → Prop} {t : Tok K} : wpC P hf kp (.seq a b) st K t = wpC P hf kp a st (seqK P hf kp b K t) ⟨⟩ := by
  simp only [wpC]; rfl
theorem wpC_block {id : Nat} {a : SC} {st : St} {K : Ex → St → Prop} {t : Tok K} : wpC P hf kp (.block id a) st K t = wpC P hf kp a st (blockK id K) ⟨⟩ := by
  simp only [wpC]; rfl
theorem wpC_cond {c : Operand} {a b : SC} {sl : List SV} {rs : List (Nat × Res)} {nx : Nat} {K : Ex → St → Prop} {t : Tok K} : wpC P hf kp (.cond c a b) ⟨sl, rs, nx⟩ K t = match ev sl c with
    | .cv (.val (.bool x)) => CondC x (wpC P hf kp a ⟨sl, rs, nx⟩ K t) (wpC P hf kp b ⟨sl, rs, nx⟩ K t) ⟨⟩ ⟨⟩
    | .cv (.nq n) => (n = 0 → wpC P hf kp a ⟨sl, rs, nx⟩ K t) ∧ wpC P hf kp b ⟨sl, rs, nx⟩ K t
    | _ => False := by simp only [wpC]; rfl
theorem wpC_loop {a : SC} {st : St} {K : Ex → St → Prop} {t : Tok K} : wpC P hf kp (.loop a) st K t = LoopC P hf kp a st K t := by simp only [wpC]
theorem wpC_join {a b : SC} {st : St} {K : Ex → St → Prop} {t : Tok K} : wpC P hf kp (.join a b) st K t = JoinC P hf kp (fun K' t' => wpC P hf kp a st K' t') b K := by simp only [wpC]
theorem joinK_n {J : St → Prop} {st : St} {K : Ex → St → Prop} : joinK J K .normal st = J st := by simp only [joinK]
theorem joinK_e {J : St → Prop} {st : St} {K : Ex → St → Prop} {id : Nat} : joinK J K (.exit id) st = K (.exit id) st := by simp only [joinK]
theorem joinK_r {J : St → Prop} {st : St} {K : Ex → St → Prop} : joinK J K .ret st = K .ret st := by simp only [joinK]
theorem wpC_exit {id : Nat} {st : St} {K : Ex → St → Prop} {t : Tok K} : wpC P hf kp (.exit id) st K t = K (.exit id) st := by simp only [wpC]
theorem wpC_ret {st : St} {K : Ex → St → Prop} {t : Tok K} : wpC P hf kp .ret st K t = K .ret st := by simp only [wpC]

theorem Fs_nil {sl : List SV} {rs : List (Nat × Res)} {K : List SV → List (Nat × Res) → Prop} {t : Tok K} : Fs P hf nm nc [] sl rs K t = K sl rs := by simp only [Fs]
theorem Fs_none {i : Nat} {d : Option Nat} {op : SOp} {anc : List Nat} {L : List SO} {sl : List SV} {rs : List (Nat × Res)} {K : List SV → List (Nat × Res) → Prop} {t : Tok K} :
    Fs P hf nm nc (⟨i, d, op, none, anc⟩ :: L) sl rs K t = stepS P hf nm nc ⟨i, d, op, none, anc⟩ sl rs (fun sl' rs' => Fs P hf nm nc L sl' rs' K t) ⟨⟩ := by simp only [Fs]
theorem Fs_some {i : Nat} {d : Option Nat} {op : SOp} {g : Nat} {w : Bool} {anc : List Nat} {L : List SO} {sl : List SV} {rs : List (Nat × Res)} {K : List SV → List (Nat × Res) → Prop} {t : Tok K} :
    Fs P hf nm nc (⟨i, d, op, some (g, w), anc⟩ :: L) sl rs K t = match sl.getD g .any with
      | .cv (.val (.bool b)) => CondC (b == w)
        (stepS P hf nm nc ⟨i, d, op, some (g, w), anc⟩ (sl.set g (.cv (.val (.bool w)))) rs (fun sl' rs' => Fs P hf nm nc L sl' rs' K t) ⟨⟩)
        (Fs P hf nm nc L (setS (sl.set g (.cv (.val (.bool (!w))))) d (.tup [])) rs K t) ⟨⟩ ⟨⟩
      | .tup [] => Fs P hf nm nc L (setS sl d (.tup [])) rs K t
      | _ => False := by simp only [Fs]; rfl
theorem stepS_eq {o : SO} {sl : List SV} {rs : List (Nat × Res)} {C : List SV → List (Nat × Res) → Prop} {t : Tok C} : stepS P hf nm nc o sl rs C t = match o.op with
  | .call f args => CallC P hf (ev sl f) (args.map (ev sl)) rs (nc + 8 * o.idx) (fun _ => true) (fun v upd _ => C (setS sl o.dst v) (setRs rs upd)) ⟨⟩
  | op => match opFn (ev sl) op ((need (ev sl) op).map fun i => (i, lk rs i)) (nm + o.idx) with
    | some r => r.obl ∧ C (setS sl o.dst r.val) (setRs rs r.upd)
    | none => False := by simp only [stepS]; rfl

theorem Fc_nil {dr : Bool} {tr : List En} {sl : List SV} {rs : List (Nat × Res)} {K : List SV → List (Nat × Res) → Prop} {t : Tok K} : Fc P hf nm nc dr [] sl rs tr K t = K sl rs := by simp only [Fc]
theorem Fc_none {dr : Bool} {tr : List En} {i : Nat} {d : Option Nat} {op : SOp} {anc : List Nat} {L : List SO} {sl : List SV} {rs : List (Nat × Res)} {K : List SV → List (Nat × Res) → Prop} {t : Tok K} :
    Fc P hf nm nc dr (⟨i, d, op, none, anc⟩ :: L) sl rs tr K t = stepC P hf nm nc dr ⟨i, d, op, none, anc⟩ L sl rs tr (fun sl' rs' e => Fc P hf nm nc dr L sl' rs' (e :: tr) K t) ⟨⟩ := by simp only [Fc]
theorem Fc_some {dr : Bool} {tr : List En} {i : Nat} {d : Option Nat} {op : SOp} {g : Nat} {w : Bool} {anc : List Nat} {L : List SO} {sl : List SV} {rs : List (Nat × Res)} {K : List SV → List (Nat × Res) → Prop} {t : Tok K} :
    Fc P hf nm nc dr (⟨i, d, op, some (g, w), anc⟩ :: L) sl rs tr K t = match sl.getD g .any with
      | .cv (.val (.bool b)) => CondC (b == w)
        (stepC P hf nm nc dr ⟨i, d, op, some (g, w), anc⟩ L (sl.set g (.cv (.val (.bool w)))) rs tr (fun sl' rs' e => Fc P hf nm nc dr L sl' rs' (e :: tr) K t) ⟨⟩)
        (okB dr tr (skipEn ⟨i, d, op, some (g, w), anc⟩) anc = true ∧ Fc P hf nm nc dr L (setS (sl.set g (.cv (.val (.bool (!w))))) d (.tup [])) rs (skipEn ⟨i, d, op, some (g, w), anc⟩ :: tr) K t) ⟨⟩ ⟨⟩
      | .tup [] => okB dr tr (skipEn ⟨i, d, op, some (g, w), anc⟩) anc = true ∧ Fc P hf nm nc dr L (setS sl d (.tup [])) rs (skipEn ⟨i, d, op, some (g, w), anc⟩ :: tr) K t
      | _ => False := by simp only [Fc]; rfl
theorem stepC_eq {dr : Bool} {tr : List En} {o : SO} {rest : List SO} {sl : List SV} {rs : List (Nat × Res)} {C : List SV → List (Nat × Res) → En → Prop} {t : Tok C} : stepC P hf nm nc dr o rest sl rs tr C t = match o.op with
  | .call f args => (!dr || rest.all fun o' => o'.anc.contains o.idx) = true ∧
      CallC P hf (ev sl f) (args.map (ev sl)) rs (nc + 8 * o.idx) (fun fp => okB dr tr (callEn o fp (nc + 8 * o.idx)) o.anc)
        (fun v upd fp => C (setS sl o.dst v) (setRs rs upd) (callEn o fp (nc + 8 * o.idx))) ⟨⟩
  | op => match opFn (ev sl) op ((need (ev sl) op).map fun i => (i, lk rs i)) (nm + o.idx) with
    | some r => r.obl ∧ okB dr tr (opEn o (need (ev sl) op) r) o.anc = true ∧ C (setS sl o.dst r.val) (setRs rs r.upd) (opEn o (need (ev sl) op) r)
    | none => False := by simp only [stepC]; rfl
end
end Sx

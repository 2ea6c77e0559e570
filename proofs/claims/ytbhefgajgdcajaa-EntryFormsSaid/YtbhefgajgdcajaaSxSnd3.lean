/- The engine's operations are sound, third part: arithmetic, comparisons, conversions, parts. -/
import Derived.Test.YtbhefgajgdcajaaSxSnd2
set_option linter.unusedVariables false
set_option linter.unusedSimpArgs false
namespace Sx
open Go

section
variable {P : Program} {o : Oper}

theorem snd_nilck {x : Operand} (h : o.op = .nilCheck x) : Sound P o (.nilck x) := by
  intro ρ va hf w β res hp n rs r hd _ hr hn hop _
  have hx := hd x (by simp [SOp.operands])
  simp only [opFn] at hop
  split at hop
  · rename_i i sz idx fld e
    simp only [Option.some.injEq] at hop; subst hop
    rw [e] at hx
    have hx' := hx
    obtain ⟨a, cap, hb, hv⟩ := hx
    exact done_pure hr hn (v := va x) (by simp [execOp, h, hv]) hx'
  · rename_i f a b e
    simp only [Option.some.injEq] at hop; subst hop
    rw [e] at hx
    have hx' := hx
    obtain ⟨fs, cs, hv, _, _⟩ := hx
    exact done_pure hr hn (v := va x) (by simp [execOp, h, hv]) hx'
  · rename_i l e
    simp only [Option.some.injEq] at hop; subst hop
    rw [e] at hx
    have hx' := hx
    obtain ⟨a, vs, hv, _⟩ := hx
    exact done_pure hr hn (v := va x) (by simp [execOp, h, hv]) hx'
  · cases hop

theorem snd_ibin {op : BinOp} {t ty : TypeId} {x y : Operand} (h : o.op = .binOp op t x y ty) : Sound P o (.ibin op x y) := by
  intro ρ va hf w β res hp n rs r hd _ hr hn hop ho
  have hx := hd x (by simp [SOp.operands])
  have hy := hd y (by simp [SOp.operands])
  simp only [opFn] at hop
  split at hop
  · rename_i k a k' b ex ey
    rw [ex] at hx; rw [ey] at hy
    obtain ⟨v, h1, h2, h3, h4⟩ := ibin_run (P := P) (w := w) (β := β) (t := t) (x := x) (y := y) hop ho
    obtain ⟨p, s, u⟩ := r
    simp only at h4; subst h4
    exact done_pure hr hn (v := v) (by simp [execOp, h, hx.1, hy.1, h1, h2]) h3
  · cases hop

theorem eqGuard_plain {w : World} {op : BinOp} {t : TypeId} {x y : Operand} {a b : Value} (h : ∀ u v, (a, b) ≠ (.agg u, .agg v)) (h' : (a, b) ≠ (.nilIface, .nilIface)) :
    (eqGuard op t x y a b).run P w = .ok () w := by
  unfold eqGuard
  cases op <;> simp <;> (split <;> first | (exact absurd rfl h') | (exact absurd rfl (h _ _)) | simp)

theorem snd_sbin {op : BinOp} {t ty : TypeId} {x y : Operand} (h : o.op = .binOp op t x y ty) : Sound P o (.sbin op x y) := by
  intro ρ va hf w β res hp n rs r hd _ hr hn hop ho
  have hx := hd x (by simp [SOp.operands])
  have hy := hd y (by simp [SOp.operands])
  simp only [opFn] at hop
  split at hop
  case h_2 => cases hop
  rename_i a b ex ey
  rw [ex] at hx; rw [ey] at hy
  have hg : (eqGuard op t x y (.string a) (.string b)).run P w = .ok () w := eqGuard_plain (by simp) (by simp)
  split at hop
  · simp only [Option.some.injEq] at hop; subst hop
    exact done_pure hr hn (v := .bool (a.toList == b.toList)) (by simp [execOp, h, hx.1, hy.1, hg, binOp, Op.stringOp]) ⟨rfl, trivial⟩
  · simp only [Option.some.injEq] at hop; subst hop
    exact done_pure hr hn (v := .bool (!(a.toList == b.toList))) (by simp [execOp, h, hx.1, hy.1, hg, binOp, Op.stringOp]) ⟨rfl, trivial⟩
  · simp only [Option.some.injEq] at hop; subst hop
    refine done_pure hr hn (v := .string (a ++ b)) ?_ ⟨rfl, trivial⟩
    have hle : ¬ (((a.size + b.size : Nat) : Int) > IntKind.i64.max) := by
      have : IntKind.i64.max = 9223372036854775807 := by decide
      rw [this]
      have : a.size + b.size ≤ 9223372036854775807 := ho
      omega
    have ho' : a.size + b.size ≤ 9223372036854775807 := ho
    have hle' : (a.size : Int) + b.size ≤ IntKind.i64.max := by simpa using hle
    simp [execOp, h, hx.1, hy.1, hg, binOp, Op.stringOp]
    omega
  · cases hop

theorem snd_eqB {op : BinOp} {t ty : TypeId} {x y : Operand} {neg : Bool} (ht : P.underlying t = some .bool) (h : o.op = .binOp op t x y ty) (hop' : op = if neg then .neq else .eql) : Sound P o (.eqB neg x y) := by
  intro ρ va hf w β res hp n rs r hd _ hr hn hop _
  have hx := hd x (by simp [SOp.operands])
  have hy := hd y (by simp [SOp.operands])
  simp only [opFn] at hop
  split at hop
  case h_2 => cases hop
  rename_i a b ex ey
  rw [ex] at hx; rw [ey] at hy
  have hg : (eqGuard op t x y (.bool a) (.bool b)).run P w = .ok () w := eqGuard_plain (by simp) (by simp)
  simp only [Option.some.injEq] at hop; subst hop
  have he : (Op.equal t (.bool a) (.bool b)).run P w = .ok (a == b) w := by
    simp [Op.equal, Op.maxDepth, run_equalIn_bool w 9999 t a b ht]
  cases neg
  · simp at hop'; subst hop'
    exact done_pure hr hn (v := .bool (a == b)) (by simp [execOp, h, hx.1, hy.1, hg, binOp, he]) ⟨rfl, trivial⟩
  · simp at hop'; subst hop'
    exact done_pure hr hn (v := .bool (!(a == b))) (by simp [execOp, h, hx.1, hy.1, hg, binOp, he]) ⟨rfl, trivial⟩

theorem eqIn_ptr {w : World} {d : Nat} {t e : TypeId} (ht : P.underlying t = some (.pointer e)) (q : Option Addr) :
    (Op.equalIn (d + 1) t (.pointer none) (.pointer q)).run P w = .ok q.isNone w ∧ (Op.equalIn (d + 1) t (.pointer q) (.pointer none)).run P w = .ok q.isNone w := by
  cases q <;> simp [Op.equalIn, run_underlying ht]

theorem eq_ptr {w : World} {t e : TypeId} (ht : P.underlying t = some (.pointer e)) (q : Option Addr) :
    (Op.equal t (.pointer none) (.pointer q)).run P w = .ok q.isNone w ∧ (Op.equal t (.pointer q) (.pointer none)).run P w = .ok q.isNone w :=
  eqIn_ptr (d := 9999) ht q

theorem snd_eqP {op : BinOp} {t ty e : TypeId} {x y : Operand} {neg : Bool} (ht : P.underlying t = some (.pointer e)) (h : o.op = .binOp op t x y ty) (hop' : op = if neg then .neq else .eql) : Sound P o (.eqP neg x y) := by
  intro ρ va hf w β res hp n rs r hd _ hr hn hop _
  have hx := hd x (by simp [SOp.operands])
  have hy := hd y (by simp [SOp.operands])
  have key : ∀ (p q : Option Addr) (b : Bool), va x = .pointer p → va y = .pointer q → (Op.equal t (.pointer p) (.pointer q)).run P w = .ok b w →
      (execOp va o).run P w = .ok (.value (.bool (if neg then !b else b))) w := by
    intro p q b hp hq he
    have hg : (eqGuard op t x y (.pointer p) (.pointer q)).run P w = .ok () w := eqGuard_plain (by simp) (by simp)
    cases neg <;> simp at hop' <;> subst hop' <;> simp [execOp, h, hp, hq, hg, binOp, he]
  simp only [opFn] at hop
  split at hop
  · rename_i e1 ex ey
    rw [ex] at hx; rw [ey] at hy
    simp only [Option.some.injEq] at hop; subst hop
    obtain ⟨a, cap, _, hv⟩ := hx
    have := key _ none false hv hy.1 (eq_ptr ht _).2
    exact done_pure hr hn this (by cases neg <;> exact ⟨rfl, trivial⟩)
  · rename_i e1 ex ey
    rw [ex] at hx; rw [ey] at hy
    simp only [Option.some.injEq] at hop; subst hop
    obtain ⟨a, cap, _, hv⟩ := hy
    have := key none _ false hx.1 hv (eq_ptr ht _).1
    exact done_pure hr hn this (by cases neg <;> exact ⟨rfl, trivial⟩)
  · rename_i ex ey
    rw [ex] at hx; rw [ey] at hy
    simp only [Option.some.injEq] at hop; subst hop
    have := key none none true hx.1 hy.1 (eq_ptr ht _).1
    exact done_pure hr hn this (by cases neg <;> exact ⟨rfl, trivial⟩)
  · rename_i e1 ex ey
    rw [ex] at hx; rw [ey] at hy
    simp only [Option.some.injEq] at hop; subst hop
    obtain ⟨a, vs, hv, _⟩ := hx
    have := key _ none false hv hy.1 (eq_ptr ht _).2
    exact done_pure hr hn this (by cases neg <;> exact ⟨rfl, trivial⟩)
  · cases hop

theorem snd_notB {t : TypeId} {x : Operand} (h : o.op = .unOp .not t x) : Sound P o (.notB x) := by
  intro ρ va hf w β res hp n rs r hd _ hr hn hop _
  have hx := hd x (by simp [SOp.operands])
  simp only [opFn] at hop
  split at hop
  · rename_i a e
    rw [e] at hx
    simp only [Option.some.injEq] at hop; subst hop
    exact done_pure hr hn (v := .bool (!a)) (by simp [execOp, h, hx.1, Op.unary]) ⟨rfl, trivial⟩
  · cases hop

set_option linter.unusedSimpArgs false in
theorem widens_wrap {s d : IntKind} {a : Int} (h : widens s d = true) (h1 : s.min ≤ a) (h2 : a ≤ s.max) : d.wrap a = a := by
  have e8 : (2 : Int) ^ (8 : Nat) = 256 := by decide
  have e16 : (2 : Int) ^ (16 : Nat) = 65536 := by decide
  have e32 : (2 : Int) ^ (32 : Nat) = 4294967296 := by decide
  have e64 : (2 : Int) ^ (64 : Nat) = 18446744073709551616 := by decide
  have f8 : (2 : Int) ^ (8 - 1 : Nat) = 128 := by decide
  have f16 : (2 : Int) ^ (16 - 1 : Nat) = 32768 := by decide
  have f32 : (2 : Int) ^ (32 - 1 : Nat) = 2147483648 := by decide
  have f64 : (2 : Int) ^ (64 - 1 : Nat) = 9223372036854775808 := by decide
  cases s <;> cases d <;> first | (simp [widens] at h; done) | skip
  all_goals
    simp only [IntKind.min, IntKind.max, IntKind.bits, IntKind.signed, if_true, Bool.false_eq_true, if_false, e8, e16, e32, e64, f8, f16, f32, f64] at h1 h2
    simp only [IntKind.wrap, IntKind.bits, IntKind.signed, e8, e16, e32, e64, f8, f16, f32, f64, Bool.true_and, Bool.false_and, decide_eq_true_eq, Bool.false_eq_true, if_false]
    first | omega | (split <;> omega)

theorem snd_convI {s d : TypeId} {a b : IntKind} {x : Operand} (h1 : P.underlying s = some (.int a)) (h2 : P.underlying d = some (.int b)) (h : o.op = .convert s d x) : Sound P o (.convI a b x) := by
  intro ρ va hf w β res hp n rs r hd _ hr hn hop ho
  have hx := hd x (by simp [SOp.operands])
  simp only [opFn] at hop
  split at hop
  case h_2 => cases hop
  rename_i k m e
  rw [e] at hx
  split at hop
  case isFalse => cases hop
  rename_i hk; subst hk
  have hrun : (execOp va o).run P w = .ok (.value (.int b (b.wrap m))) w := by
    simp [execOp, h, hx.1, convert, run_underlying h1, run_underlying h2, Conv.intToInt]
  split at hop
  · rename_i hw
    simp only [Option.some.injEq] at hop; subst hop
    refine done_pure hr hn hrun ⟨?_, trivial⟩
    rw [widens_wrap hw ho.1 ho.2]
  · simp only [Option.some.injEq] at hop; subst hop
    exact done_pure hr hn hrun ⟨rfl, trivial⟩

theorem snd_convSS {s d : TypeId} {x : Operand} (h1 : P.underlying s = some .string) (h2 : P.underlying d = some .string) (h : o.op = .convert s d x) : Sound P o (.convSS x) := by
  intro ρ va hf w β res hp n rs r hd _ hr hn hop ho
  have hx := hd x (by simp [SOp.operands])
  simp only [opFn] at hop
  split at hop
  case h_2 => cases hop
  rename_i m e
  rw [e] at hx
  simp only [Option.some.injEq] at hop; subst hop
  exact done_pure hr hn (v := .string m) (by simp [execOp, h, hx.1, convert, run_underlying h1, run_underlying h2]) ⟨rfl, trivial⟩

theorem snd_faddr {s : TypeId} {x : Operand} {f : Nat} {so : SOp} (h : o.op = .fieldAddr s x f) (hc : cFieldAddr P s x f = some so) : Sound P o so := by
  unfold cFieldAddr fieldOf at hc
  cases hu : P.underlying s with
  | none => simp [hu] at hc
  | some d =>
    cases d <;> simp only [hu] at hc <;> try (cases hc; done)
    rename_i fs
    cases hg : fs[f]? with
    | none => simp [hg] at hc
    | some g =>
      simp only [hg] at hc
      cases hi : P.info? g.type with
      | none => simp [hi] at hc
      | some i =>
        simp only [hi] at hc
        split at hc
        · cases hc
        · rename_i hsz
          simp only [Option.some.injEq] at hc; subst hc
          intro ρ va hf w β res hp n rs r hd _ hr hn hop _
          have hx := hd x (by simp [SOp.operands])
          simp only [opFn] at hop
          split at hop
          case h_3 => cases hop
          case h_2 l e =>
            rw [e] at hx
            simp only [Option.some.injEq] at hop; subst hop
            have hx' := hx
            obtain ⟨a, vs, hv, hsp, _⟩ := hx'
            rw [hv] at hx
            refine done_pure hr hn (v := .pointer (some (a.add g.offset))) ?_ (rp_drop hx _)
            simp [execOp, h, hv, Instr.fieldAt, Instr.sureAddr, run_underlying hu, hg, fieldPlace, run_sizeOf_of hi, hsz]
          rename_i nm sz idx fld e
          rw [e] at hx
          simp only [Option.some.injEq] at hop; subst hop
          obtain ⟨a, cap, hb, hv⟩ := hx
          refine done_pure hr hn (v := .pointer (some ((a.add (idx * sz + fld)).add g.offset))) ?_ ⟨a, cap, hb, ?_⟩
          · simp [execOp, h, hv, Instr.fieldAt, Instr.sureAddr, run_underlying hu, hg, fieldPlace, run_sizeOf_of hi, hsz]
          · congr 2
            have hs : a.spot = none ∨ a.spot.isSome := by cases a.spot <;> simp
            unfold Addr.add
            split <;> split <;> simp_all <;> omega

theorem run_part {P : Program} {t : TypeId} {d : TypeDesc} {i : TypeInfo} {w : World} {cs : Array Value} {off : Nat} (h1 : P.underlying t = some d) (h2 : P.info? t = some i) :
    (part t cs off).run P w = if isAggD d then .ok (.agg (cs.extract off (off + i.size))) w else match cs[off]? with
      | some v => .ok v w
      | none => .halt (.stuck "part: no such cell") w := by
  have hag : (isAgg t).run P w = .ok (isAggD d) w := by
    rw [run_isAgg_of h1]; cases d <;> rfl
  unfold part
  simp only [Sem.run_bind, hag, Result.andThen_ok]
  cases hb : isAggD d
  · simp only [Bool.false_eq_true, if_false]
    cases cs[off]? <;> simp
  · simp [run_sizeOf_of h2]

/-- A part of an aggregate, as cells. -/
theorem part_den {P : Program} {β : Env} {t : TypeId} {d : TypeDesc} {i : TypeInfo} {w : World} {l : List CV} {vs : List Value} {off : Nat} (h1 : P.underlying t = some d) (h2 : P.info? t = some i)
    (hden : CV.DenL β l vs) (hm : isAggD d = false → off + 1 ≤ l.length) :
    ∃ v, (part t vs.toArray off).run P w = .ok v w ∧ SV.Den β (svOf (isAggD d) ((l.drop off).take (if isAggD d then i.size else 1))) v := by
  rw [run_part h1 h2]
  cases hb : isAggD d
  · have hlt := hm hb
    have hlen := CV.denL_length _ _ hden
    obtain ⟨x, hx, hdx⟩ := CV.denL_get _ _ hden off (l[off]'(by omega)) (by simp)
    refine ⟨x, ?_, ?_⟩
    · have e : vs.toArray[off]? = some x := by simpa using hx
      simp [e]
    · simp only [svOf, Bool.false_eq_true, if_false]
      rw [List.drop_eq_getElem_cons (by omega)]
      exact hdx
  · simp only [if_true]
    refine ⟨_, rfl, (vs.drop off).take i.size, ?_, CV.denL_take _ _ _ (CV.denL_drop _ _ _ hden)⟩
    simp

end
end Sx

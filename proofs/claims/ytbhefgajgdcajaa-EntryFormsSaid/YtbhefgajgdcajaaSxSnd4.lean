/- The engine's operations are sound, fourth part: structs compared leaf by leaf. -/
import Derived.Test.YtbhefgajgdcajaaSxSnd3
import Derived.Laws.StructEq
set_option linter.unusedVariables false
set_option linter.unusedSimpArgs false
namespace Sx
open Go

def leafEq : Leaf → Value → Value → Bool → Prop
  | .int, x, y, c => ∃ k a b, x = .int k a ∧ y = .int k b ∧ c = (a == b)
  | .bool, x, y, c => ∃ a b, x = .bool a ∧ y = .bool b ∧ c = (a == b)
  | .str, x, y, c => ∃ a b, x = .string a ∧ y = .string b ∧ c = (a.toList == b.toList)

theorem eqCells_inv {s : Leaf} {sh : List Leaf} {l m : List CV} {b : Bool} (h : eqCells (s :: sh) l m = some b) :
    ∃ x y l' m' q c, l = .val x :: l' ∧ m = .val y :: m' ∧ eqCells sh l' m' = some q ∧ b = (c && q) ∧ leafEq s x y c := by
  match l, m with
  | [], _ => cases s <;> simp [eqCells] at h
  | _ :: _, [] => cases s <;> simp [eqCells] at h
  | c :: l', e :: m' =>
    cases s
    all_goals
      cases c <;> first | (simp [eqCells] at h; done) | skip
      rename_i v
      cases v <;> first | (simp [eqCells] at h; done) | skip
      cases e <;> first | (simp [eqCells] at h; done) | skip
      rename_i v'
      cases v' <;> first | (simp [eqCells] at h; done) | skip
      simp only [eqCells] at h
    case int =>
      split at h
      case isFalse => cases h
      rename_i hk
      subst hk
      cases hr : eqCells sh l' m' with
      | none => rw [hr] at h; cases h
      | some q =>
        rw [hr] at h
        simp only [Option.map_some, Option.some.injEq] at h
        exact ⟨_, _, l', m', q, _, rfl, rfl, hr, h.symm, _, _, _, rfl, rfl, rfl⟩
    all_goals
      cases hr : eqCells sh l' m' with
      | none => rw [hr] at h; cases h
      | some q =>
        rw [hr] at h
        simp only [Option.map_some, Option.some.injEq] at h
        exact ⟨_, _, l', m', q, _, rfl, rfl, hr, h.symm, _, _, rfl, rfl, rfl⟩

theorem eqCells_nil {l m : List CV} {b : Bool} (h : eqCells [] l m = some b) : l = [] ∧ m = [] ∧ b = true := by
  match l, m with
  | [], [] => simp [eqCells] at h; exact ⟨rfl, rfl, h⟩
  | [], _ :: _ => simp [eqCells] at h
  | _ :: _, _ => simp [eqCells] at h

theorem eqCells_append {l2 m2 : List CV} {s2 : List Leaf} : ∀ (s1 : List Leaf) (l1 m1 : List CV) (b : Bool), l1.length = s1.length → m1.length = s1.length →
    eqCells (s1 ++ s2) (l1 ++ l2) (m1 ++ m2) = some b → ∃ b1 b2, eqCells s1 l1 m1 = some b1 ∧ eqCells s2 l2 m2 = some b2 ∧ b = (b1 && b2)
  | [], [], [], b, _, _, h => ⟨true, b, rfl, h, by simp⟩
  | s :: s1, c :: l1, e :: m1, b, h1, h2, h => by
    simp only [List.cons_append] at h
    simp only [List.length_cons, Nat.add_right_cancel_iff] at h1 h2
    cases s
    all_goals
      cases c <;> first | (simp [eqCells] at h; done) | skip
      rename_i v
      cases v <;> first | (simp [eqCells] at h; done) | skip
      cases e <;> first | (simp [eqCells] at h; done) | skip
      rename_i v'
      cases v' <;> first | (simp [eqCells] at h; done) | skip
    case int =>
      simp only [eqCells] at h ⊢
      split at h
      case isFalse => cases h
      rename_i hk
      rw [if_pos hk]
      cases hr : eqCells (s1 ++ s2) (l1 ++ l2) (m1 ++ m2) with
      | none => rw [hr] at h; cases h
      | some q =>
        rw [hr] at h
        obtain ⟨b1, b2, e1, e2, e3⟩ := eqCells_append s1 l1 m1 q h1 h2 hr
        simp only [Option.map_some, Option.some.injEq] at h
        exact ⟨_, b2, by rw [e1]; rfl, e2, by rw [← h, e3, Bool.and_assoc]⟩
    all_goals
      simp only [eqCells] at h ⊢
      cases hr : eqCells (s1 ++ s2) (l1 ++ l2) (m1 ++ m2) with
      | none => rw [hr] at h; cases h
      | some q =>
        rw [hr] at h
        obtain ⟨b1, b2, e1, e2, e3⟩ := eqCells_append s1 l1 m1 q h1 h2 hr
        simp only [Option.map_some, Option.some.injEq] at h
        exact ⟨_, b2, by rw [e1]; rfl, e2, by rw [← h, e3, Bool.and_assoc]⟩

theorem take_drop_add (l : List CV) (off a b : Nat) : (l.drop off).take (a + b) = (l.drop off).take a ++ (l.drop (off + a)).take b := by
  rw [List.take_add, List.drop_drop]

section
variable {P : Program} {β : Env}

/-- The value of a type out of its cells. -/
def valOf (P : Program) (t : TypeId) (vs : List Value) : Value :=
  match P.underlying t with
  | some (.struct _) => .agg vs.toArray
  | _ => vs.headD undef

theorem eqFields_run {w : World} {D : Nat} {fl : TypeId → Option (List Leaf)}
    (hsz : ∀ t sh, fl t = some sh → ∃ d, P.underlying t = some d ∧ ((∃ fs, d = .struct fs ∧ ∃ i, P.info? t = some i ∧ i.size = sh.length) ∨ (isAggD d = false ∧ sh.length = 1)))
    (hfl : ∀ t sh l m vs ws b, fl t = some sh → CV.DenL β l vs → CV.DenL β m ws → l.length = sh.length → m.length = sh.length → eqCells sh l m = some b →
      (Op.equalIn D t (valOf P t vs) (valOf P t ws)).run P w = .ok b w)
    {L M : List CV} {V W : List Value} (hV : CV.DenL β L V) (hW : CV.DenL β M W) :
    ∀ (fs : List Field) (off : Nat) (r : List Leaf) (b : Bool), flatF fl fs off = some r → off + r.length ≤ L.length → off + r.length ≤ M.length →
      eqCells r ((L.drop off).take r.length) ((M.drop off).take r.length) = some b → (Op.eqFields D V.toArray W.toArray fs).run P w = .ok b w
  | [], off, r, b, h, _, _, he => by
    simp only [flatF, Option.some.injEq] at h
    subst h
    simp [eqCells] at he
    subst he
    simp [Op.eqFields]
  | f :: fs, off, r, b, h, h1, h2, he => by
    unfold flatF at h
    split at h
    case isFalse => cases h
    rename_i hcond
    split at h
    case h_2 => cases h
    rename_i s1 hs1
    split at h
    case h_2 => cases h
    rename_i s2 hs2
    simp only [Option.some.injEq] at h
    subst h
    simp only [List.length_append] at h1 h2 he
    rw [take_drop_add, take_drop_add] at he
    obtain ⟨b1, b2, e1, e2, e3⟩ := eqCells_append s1 _ _ b (by simp; omega) (by simp; omega) he
    have hrest := eqFields_run hsz hfl hV hW fs (off + s1.length) s2 b2 hs2 (by omega) (by omega) e2
    have hone := hfl f.type s1 _ _ _ _ b1 hs1 (CV.denL_take s1.length _ _ (CV.denL_drop off _ _ hV)) (CV.denL_take s1.length _ _ (CV.denL_drop off _ _ hW)) (by simp; omega) (by simp; omega) e1
    have hlV := CV.denL_length _ _ hV
    have hlW := CV.denL_length _ _ hW
    have hpart : ∀ (X : List Value), off + s1.length ≤ X.length → (part f.type X.toArray f.offset).run P w = .ok (valOf P f.type ((X.drop off).take s1.length)) w := by
      intro X hX
      rw [hcond.2]
      obtain ⟨d, hd, hcase⟩ := hsz _ _ hs1
      rcases hcase with ⟨gs, rfl, i, hi, hsz'⟩ | ⟨hagg, hlen⟩
      · rw [run_part hd hi]
        simp [isAggD, valOf, hd, hsz']
      · have hag : (isAgg f.type).run P w = .ok false w := by
          rw [run_isAgg_of hd]; cases d <;> first | rfl | (simp [isAggD] at hagg)
        unfold part
        simp only [Sem.run_bind, hag, Result.andThen_ok, Bool.false_eq_true, if_false]
        have hlt : off < X.length := by omega
        have : X.toArray[off]? = some (X[off]) := by simp [hlt]
        rw [this]
        simp only [Sem.run_pure]
        congr 1
        unfold valOf
        rw [hd, hlen, List.drop_eq_getElem_cons hlt]
        cases d <;> first | rfl | (simp [isAggD] at hagg)
    unfold Op.eqFields
    rw [if_pos hcond.1]
    simp only [Sem.run_bind, hpart V (by omega), hpart W (by omega), Result.andThen_ok, hone]
    cases b1
    · simp [e3]
    · simp [e3, hrest]

theorem flat_size : ∀ (d : Nat) (t : TypeId) (sh : List Leaf), flat P d t = some sh →
    ∃ u, P.underlying t = some u ∧ ((∃ fs, u = .struct fs ∧ ∃ i, P.info? t = some i ∧ i.size = sh.length) ∨ (isAggD u = false ∧ sh.length = 1))
  | 0, _, _, h => by cases h
  | d + 1, t, sh, h => by
    unfold flat at h
    split at h
    · rename_i h1; simp only [Option.some.injEq] at h; subst h; exact ⟨_, h1, .inr ⟨rfl, rfl⟩⟩
    · rename_i h1; simp only [Option.some.injEq] at h; subst h; exact ⟨_, h1, .inr ⟨rfl, rfl⟩⟩
    · rename_i h1; simp only [Option.some.injEq] at h; subst h; exact ⟨_, h1, .inr ⟨rfl, rfl⟩⟩
    · rename_i fs h1
      split at h
      · cases h
      · split at h
        case h_2 => cases h
        rename_i r i h2 h3
        split at h
        case isFalse => cases h
        rename_i h4
        simp only [Option.some.injEq] at h; subst h
        exact ⟨_, h1, .inl ⟨fs, rfl, i, h3, h4⟩⟩
    · cases h

theorem eq_leaf {sh : List Leaf} {w : World} {l m : List CV} {vs ws : List Value} {b : Bool} {D : Nat} {t : TypeId} {u : TypeDesc} (hu : P.underlying t = some u)
    (hcase : (∃ k, u = .int k ∧ sh = [.int]) ∨ (u = .bool ∧ sh = [.bool]) ∨ (u = .string ∧ sh = [.str])) (hl : CV.DenL β l vs) (hm : CV.DenL β m ws) (he : eqCells sh l m = some b) :
    (Op.equalIn (D + 1) t (valOf P t vs) (valOf P t ws)).run P w = .ok b w := by
  have two : ∀ {l : List CV} {vs : List Value} {x : CV} {xs : List CV}, l = x :: xs → CV.DenL β l vs → ∃ v, valOf P t vs = v ∧ CV.Den β x v := by
    intro l vs x xs e h
    subst e
    match vs, h with
    | v :: vs, ⟨h1, _⟩ =>
      refine ⟨v, ?_, h1⟩
      unfold valOf
      rw [hu]
      rcases hcase with ⟨k, rfl, _⟩ | ⟨rfl, _⟩ | ⟨rfl, _⟩ <;> rfl
  rcases hcase with ⟨k, rfl, rfl⟩ | ⟨rfl, rfl⟩ | ⟨rfl, rfl⟩
  all_goals
    obtain ⟨x, y, l', m', q, c, rfl, rfl, h1, h2, h3⟩ := eqCells_inv he
    obtain ⟨_, _, rfl⟩ := eqCells_nil h1
    obtain ⟨v1, hv1, hd1⟩ := two rfl hl
    obtain ⟨v2, hv2, hd2⟩ := two rfl hm
    rw [hv1, hv2, hd1.1, hd2.1]
  · obtain ⟨k', a, b', rfl, rfl, rfl⟩ := h3
    rw [run_equalIn_int w D t _ _ a b' hu, h2]; simp
  · obtain ⟨a, b', rfl, rfl, rfl⟩ := h3
    rw [run_equalIn_bool' w D t a b' hu, h2]; simp
  · obtain ⟨a, b', rfl, rfl, rfl⟩ := h3
    rw [run_equalIn_string w D t a b' hu, h2]; simp

theorem flat_eq {w : World} : ∀ (d : Nat) (t : TypeId) (sh : List Leaf), flat P d t = some sh → ∀ (D : Nat), d ≤ D → ∀ (l m : List CV) (vs ws : List Value) (b : Bool), CV.DenL β l vs → CV.DenL β m ws →
    l.length = sh.length → m.length = sh.length → eqCells sh l m = some b → (Op.equalIn D t (valOf P t vs) (valOf P t ws)).run P w = .ok b w
  | 0, _, _, h => by cases h
  | d + 1, t, sh, h => by
    intro D hD l m vs ws b hl hm hll hlm he
    obtain ⟨D, rfl⟩ : ∃ D', D = D' + 1 := ⟨D - 1, by omega⟩
    unfold flat at h
    split at h
    · rename_i k h1; simp only [Option.some.injEq] at h; subst h
      exact eq_leaf h1 (.inl ⟨k, rfl, rfl⟩) hl hm he
    · rename_i h1; simp only [Option.some.injEq] at h; subst h
      exact eq_leaf h1 (.inr (.inl ⟨rfl, rfl⟩)) hl hm he
    · rename_i h1; simp only [Option.some.injEq] at h; subst h
      exact eq_leaf h1 (.inr (.inr ⟨rfl, rfl⟩)) hl hm he
    · rename_i fs h1
      split at h
      · cases h
      · rename_i hst
        split at h
        case h_2 => cases h
        rename_i r i h2 h3
        split at h
        case isFalse => cases h
        rename_i h4
        simp only [Option.some.injEq] at h; subst h
        have hfo : P.fieldsOf t = fs := by simp [Program.fieldsOf, h1]
        have hv : ∀ us, valOf P t us = .agg us.toArray := fun us => by simp [valOf, h1]
        rw [hv, hv, run_equalIn_struct w D t _ _ (by rw [hfo]; exact h1) (by simpa using hst), hfo]
        refine eqFields_run (flat_size d) (fun t' sh' l' m' vs' ws' b' e1 e2 e3 e4 e5 e6 => flat_eq d t' sh' e1 D (by omega) l' m' vs' ws' b' e2 e3 e4 e5 e6) hl hm fs.toList 0 r b h2 (by omega) (by omega) ?_
        rw [List.drop_zero, List.drop_zero, List.take_of_length_le (by omega), List.take_of_length_le (by omega)]
        exact he
    · cases h

theorem eqCells_length : ∀ (sh : List Leaf) (l m : List CV) (b : Bool), eqCells sh l m = some b → l.length = sh.length ∧ m.length = sh.length
  | [], l, m, b, h => by obtain ⟨rfl, rfl, _⟩ := eqCells_nil h; exact ⟨rfl, rfl⟩
  | s :: sh, l, m, b, h => by
    obtain ⟨x, y, l', m', q, c, rfl, rfl, h1, _, _⟩ := eqCells_inv h
    have := eqCells_length sh l' m' q h1
    simp [this.1, this.2]

theorem snd_eqT {o : Oper} {op : BinOp} {t ty : TypeId} {x y : Operand} {neg : Bool} {sh : List Leaf} {fs : Array Field} (ht : P.underlying t = some (.struct fs)) (hgt : P.eqGuardType P.depth t = false)
    (hsh : flat P 9 t = some sh) (h : o.op = .binOp op t x y ty) (hop' : op = if neg then .neq else .eql) : Sound P o (.eqT neg sh x y) := by
  intro ρ va hf w β res hp n rs r hd _ hr hn hop _
  have hx := hd x (by simp [SOp.operands])
  have hy := hd y (by simp [SOp.operands])
  simp only [opFn] at hop
  split at hop
  case h_2 => cases hop
  rename_i a b ex ey
  rw [ex] at hx; rw [ey] at hy
  obtain ⟨vs, hvx, hdx⟩ := hx
  obtain ⟨ws, hvy, hdy⟩ := hy
  split at hop
  case h_2 => cases hop
  rename_i q he
  simp only [Option.some.injEq] at hop; subst hop
  have hl := eqCells_length _ _ _ _ he
  have hv : ∀ us, valOf P t us = .agg us.toArray := fun us => by simp [valOf, ht]
  have heq := flat_eq (w := w) 9 t sh hsh 10000 (by omega) a b vs ws q hdx hdy hl.1 hl.2 he
  rw [hv, hv] at heq
  have hg := run_eqGuard_agg w op t x y vs.toArray ws.toArray hgt
  cases neg
  · simp at hop'; subst hop'
    exact done_pure hr hn (v := .bool q) (by simp only [execOp, h, hvx, hvy, Sem.run_bind, hg, Result.andThen_ok, run_eql_struct, heq, Sem.run_pure]) ⟨rfl, trivial⟩
  · simp at hop'; subst hop'
    exact done_pure hr hn (v := .bool (!q)) (by simp only [execOp, h, hvx, hvy, Sem.run_bind, hg, Result.andThen_ok, run_neq_struct, heq, Sem.run_pure]) ⟨rfl, trivial⟩

end
end Sx

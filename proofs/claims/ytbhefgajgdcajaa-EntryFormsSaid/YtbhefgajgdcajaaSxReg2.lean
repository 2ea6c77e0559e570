/- Regions that draw their order: the formula over one order, and that others give the same. -/
import Derived.Test.YtbhefgajgdcajaaSxReg
set_option linter.unusedVariables false
set_option linter.unusedSimpArgs false
namespace Sx
open Go

structure FSt where
  slot : Nat → SV
  res : Nat → Res

structure SO where
  idx : Nat
  dst : Option Nat
  op : SOp
  guard : Option (Nat × Bool)
  anc : List Nat

/-- What an operation touches. -/
structure En where
  idx : Nat
  call : Bool
  rs : List Nat
  ws : List Nat
  rn : List Nat
  wn : List Nat

def evF (slot : Nat → SV) : Operand → SV
  | .tmp t => slot t
  | .const v => cval v
  | .global _ => .any
  | .func f => .cv (.fn (.func f) [] [])

def tmpsOf : List Operand → List Nat
  | [] => []
  | .tmp t :: l => t :: tmpsOf l
  | _ :: l => tmpsOf l

def slotsOf (o : SO) : List Nat :=
  (match o.guard with
   | some (g, _) => [g]
   | none => []) ++ tmpsOf o.op.operands

theorem mem_tmpsOf {t : Nat} : ∀ {l : List Operand}, Operand.tmp t ∈ l → t ∈ tmpsOf l
  | [], h => by cases h
  | x :: l, h => by
    rcases List.mem_cons.1 h with rfl | h
    · simp [tmpsOf]
    · have := mem_tmpsOf h
      cases x <;> simp [tmpsOf, this]

def disj (a b : List Nat) : Bool := a.all fun x => !b.contains x
theorem disj_iff {a b : List Nat} : disj a b = true ↔ ∀ x ∈ a, x ∉ b := by simp [disj]

/-- Two that may change places. -/
def free (e k : En) : Bool := !e.call && disj e.ws (k.rs ++ k.ws) && disj k.ws e.rs && disj e.wn (k.rn ++ k.wn) && disj k.wn e.rn

structure Free (e k : En) : Prop where
  call : e.call = false
  a : ∀ x ∈ e.ws, x ∉ k.rs
  b : ∀ x ∈ e.ws, x ∉ k.ws
  c : ∀ x ∈ k.ws, x ∉ e.rs
  d : ∀ x ∈ e.wn, x ∉ k.rn
  f : ∀ x ∈ e.wn, x ∉ k.wn
  g : ∀ x ∈ k.wn, x ∉ e.rn

theorem free_iff {e k : En} : free e k = true ↔ Free e k := by
  unfold free
  simp only [Bool.and_eq_true, Bool.not_eq_true', disj_iff, List.mem_append, not_or]
  constructor
  · rintro ⟨⟨⟨⟨h1, h2⟩, h3⟩, h4⟩, h5⟩
    exact ⟨h1, fun x hx => (h2 x hx).1, fun x hx => (h2 x hx).2, h3, fun x hx => (h4 x hx).1, fun x hx => (h4 x hx).2, h5⟩
  · rintro ⟨h1, h2, h3, h4, h5, h6, h7⟩
    exact ⟨⟨⟨⟨h1, fun x hx => ⟨h2 x hx, h3 x hx⟩⟩, h4⟩, fun x hx => ⟨h5 x hx, h6 x hx⟩⟩, h7⟩

theorem Free.symm {e k : En} (h : Free e k) (hk : k.call = false) : Free k e :=
  ⟨hk, h.c, fun x hx hx' => h.b x hx' hx, h.a, fun x hx hx' => h.g x hx hx', fun x hx hx' => h.f x hx' hx, fun x hx hx' => h.d x hx hx'⟩

structure Delta where
  ws : Option (Nat × SV)
  wn : List (Nat × Res)

def putF (slot : Nat → SV) : Option (Nat × SV) → Nat → SV
  | some (d, v) => up slot d v
  | none => slot

def Delta.app (δ : Delta) (φ : FSt) : FSt := ⟨putF φ.slot δ.ws, upds φ.res δ.wn⟩

theorem upds_not {res : Nat → Res} {x : Nat} : ∀ {l : List (Nat × Res)}, x ∉ l.map (·.1) → upds res l x = res x
  | [], _ => rfl
  | (i, r) :: l, h => by
    simp only [List.map_cons, List.mem_cons, not_or] at h
    simp only [upds]
    rw [upds_not h.2, up_ne _ _ h.1]

theorem upds_mem {res res' : Nat → Res} {x : Nat} : ∀ {l : List (Nat × Res)}, (x ∈ l.map (·.1) ∨ res x = res' x) → upds res l x = upds res' l x
  | [], h => by
    rcases h with h | h
    · cases h
    · exact h
  | (i, r) :: l, h => by
    simp only [upds]
    refine upds_mem ?_
    by_cases hx : x = i
    · right; rw [hx, up_same, up_same]
    · rw [up_ne _ _ hx, up_ne _ _ hx]
      rcases h with h | h
      · simp only [List.map_cons, List.mem_cons] at h
        exact .inl (h.resolve_left hx)
      · exact .inr h

theorem upds_comm {res : Nat → Res} {a b : List (Nat × Res)} (h : ∀ x ∈ a.map (·.1), x ∉ b.map (·.1)) : upds (upds res a) b = upds (upds res b) a := by
  funext x
  by_cases ha : x ∈ a.map (·.1)
  · rw [upds_not (h x ha)]
    exact upds_mem (.inl ha)
  · rw [upds_not (l := a) ha]
    by_cases hb : x ∈ b.map (·.1)
    · exact upds_mem (.inl hb)
    · rw [upds_not hb, upds_not hb, upds_not ha]

def guardOk (o : SO) (slot : Nat → SV) (exec : Bool) : Prop :=
  match o.guard with
  | none => exec = true
  | some (g, want) => (∃ b, slot g = .cv (.val (.bool b)) ∧ exec = (b == want)) ∨ (slot g = .tup [] ∧ exec = false)

def skipEn (o : SO) : En := ⟨o.idx, false, slotsOf o, o.dst.toList, [], []⟩
def opEn (o : SO) (nd : List Nat) (r : OpRes) : En := ⟨o.idx, false, slotsOf o, o.dst.toList, nd, r.upd.map (·.1)⟩
def callEn (o : SO) (fp : List Nat) (n : Nat) : En := ⟨o.idx, true, slotsOf o, o.dst.toList, fp, fp ++ List.range' n 8⟩
def dl (o : SO) (v : SV) (u : List (Nat × Res)) : Delta := ⟨o.dst.map (·, v), u⟩

/-- A step that is no call: what it writes, what it touches. -/
def Det (nm : Nat) (o : SO) (φ : FSt) (δ : Delta) (e : En) : Prop :=
  (guardOk o φ.slot false ∧ δ = dl o (.tup []) [] ∧ e = skipEn o) ∨
  (guardOk o φ.slot true ∧ ∃ r, opFn (evF φ.slot) o.op ((need (evF φ.slot) o.op).map fun i => (i, φ.res i)) (nm + o.idx) = some r ∧ r.obl ∧
    δ = dl o r.val r.upd ∧ e = opEn o (need (evF φ.slot) o.op) r)

def okAll (tr : List En) (e : En) (anc : List Nat) : Prop := ∀ t ∈ tr, t.idx ∈ anc ∨ Free t e

/-- A call: from whatever world fits, the callee comes back, and what it leaves meets K. -/
def CallP (P : Program) (hf : Fr) (f : SV) (args : List SV) (res : Nat → Res) (n : Nat) (fp : List Nat) (K : SV → List (Nat × Res) → Prop) : Prop :=
  ∀ (res' : Nat → Res) (w : World) (β : Env) (h : Nat → Hp) (fv : Value) (vs : List Value), (∀ i ∈ fp, res' i = res i) → Rel hf w β res' h → (∀ j, j < 8 → β (n + j) = none) →
    SV.Den β f fv → SV.DenL β args vs →
    ∃ (id : FuncId) (fs cs : List Value) (fn : Func), fv = .func (.func id) (List.toArray fs) (List.toArray cs) ∧ P.funcs[id]? = some fn ∧ (fn.name == "runtime.NumGoroutine") = false ∧ fn.body.isNone = false ∧
      Calls P id (List.toArray (fs ++ vs ++ cs)) w fun e w' => ∃ v rv upd β' h', e = .returned rv ∧ K v upd ∧ SV.Den β' v rv ∧ Env.le β β' ∧
        (∀ i, (i < n ∨ n + 8 ≤ i) → β' i = β i) ∧ Rel hf w' β' (upds res' upd) h' ∧ (∀ p ∈ upd, p.1 ∈ fp ++ List.range' n 8) ∧ Ext w w'

theorem CallP.mono {P : Program} {hf : Fr} {f : SV} {args : List SV} {res res' : Nat → Res} {n : Nat} {fp : List Nat} {K K' : SV → List (Nat × Res) → Prop}
    (h : CallP P hf f args res n fp K) (hr : ∀ i ∈ fp, res' i = res i) (hk : ∀ v upd, (∀ p ∈ upd, p.1 ∈ fp ++ List.range' n 8) → K v upd → K' v upd) : CallP P hf f args res' n fp K' := by
  intro r2 w β hp fv vs h1 h2 h3 h4 h5
  obtain ⟨id, fs, cs, fn, e1, e2, e3, e4, e5⟩ := h r2 w β hp fv vs (fun i hi => (h1 i hi).trans (hr i hi)) h2 h3 h4 h5
  refine ⟨id, fs, cs, fn, e1, e2, e3, e4, e5.mono ?_⟩
  rintro e w' ⟨v, rv, upd, β', h', k1, k2, k3, k4, k5, k6, k7, k8⟩
  exact ⟨v, rv, upd, β', h', k1, hk v upd k7 k2, k3, k4, k5, k6, k7, k8⟩

def Ff (P : Program) (hf : Fr) (nm nc : Nat) (dr : Bool) : List SO → FSt → List En → (FSt → Prop) → Prop
  | [], φ, _, K => K φ
  | o :: L, φ, tr, K =>
    (∃ δ e, Det nm o φ δ e ∧ (dr = true → okAll tr e o.anc) ∧ Ff P hf nm nc dr L (δ.app φ) (e :: tr) K) ∨
    (guardOk o φ.slot true ∧ (dr = true → ∀ o' ∈ L, o.idx ∈ o'.anc) ∧ ∃ f args fp, o.op = .call f args ∧ (dr = true → okAll tr (callEn o fp (nc + 8 * o.idx)) o.anc) ∧
      CallP P hf (evF φ.slot f) (args.map (evF φ.slot)) φ.res (nc + 8 * o.idx) fp fun v upd =>
        Ff P hf nm nc dr L ((dl o v upd).app φ) (callEn o fp (nc + 8 * o.idx) :: tr) K)

section
variable {P : Program} {hf : Fr} {nm nc : Nat} {dr : Bool}

theorem okAll.sub {tr tr' : List En} {e : En} {anc : List Nat} (h : okAll tr e anc) (hs : ∀ t ∈ tr', t ∈ tr) : okAll tr' e anc := fun t ht => h t (hs t ht)

theorem Ff.sub : ∀ {L : List SO} {φ : FSt} {tr tr' : List En} {K : FSt → Prop}, Ff P hf nm nc dr L φ tr K → (∀ t ∈ tr', t ∈ tr) → Ff P hf nm nc dr L φ tr' K
  | [], _, _, _, _, h, _ => h
  | o :: L, φ, tr, tr', K, h, hs => by
    rcases h with ⟨δ, e, h1, h2, h3⟩ | ⟨h1, h2, f, args, fp, h3, h4, h5⟩
    · exact .inl ⟨δ, e, h1, fun hd => (h2 hd).sub hs, h3.sub (fun t ht => by
        rcases List.mem_cons.1 ht with rfl | ht
        · simp
        · exact List.mem_cons_of_mem _ (hs t ht))⟩
    · refine .inr ⟨h1, h2, f, args, fp, h3, fun hd => (h4 hd).sub hs, h5.mono (fun _ _ => rfl) (fun v upd _ hk => hk.sub (fun t ht => by
        rcases List.mem_cons.1 ht with rfl | ht
        · simp
        · exact List.mem_cons_of_mem _ (hs t ht)))⟩

theorem Det.idx {o : SO} {φ : FSt} {δ : Delta} {e : En} (h : Det nm o φ δ e) : e.idx = o.idx ∧ e.call = false ∧ e.rs = slotsOf o ∧ e.ws = o.dst.toList ∧ (∀ p ∈ δ.wn, p.1 ∈ e.wn) ∧ (∀ d v, δ.ws = some (d, v) → d ∈ e.ws) := by
  rcases h with ⟨_, rfl, rfl⟩ | ⟨_, r, _, _, rfl, rfl⟩
  · refine ⟨rfl, rfl, rfl, rfl, by simp [dl], fun d v hd => ?_⟩
    simp only [dl, Option.map_eq_some_iff, Prod.mk.injEq] at hd
    obtain ⟨d', hd', rfl, _⟩ := hd
    simp [skipEn, hd']
  · refine ⟨rfl, rfl, rfl, rfl, fun p hp => List.mem_map.2 ⟨p, hp, rfl⟩, fun d v hd => ?_⟩
    simp only [dl, Option.map_eq_some_iff, Prod.mk.injEq] at hd
    obtain ⟨d', hd', rfl, _⟩ := hd
    simp [opEn, hd']

theorem evF_congr {s s' : Nat → SV} {x : Operand} (h : ∀ t, x = .tmp t → s t = s' t) : evF s x = evF s' x := by
  cases x <;> first | rfl | exact h _ rfl

theorem guardOk.congr {o : SO} {s s' : Nat → SV} {b : Bool} (h : guardOk o s b) (hs : ∀ t ∈ slotsOf o, s t = s' t) : guardOk o s' b := by
  unfold guardOk at *
  split
  · rename_i hg; rw [hg] at h; exact h
  · rename_i g want hg
    rw [hg] at h
    rcases h with ⟨b', h1, h2⟩ | ⟨h1, h2⟩
    · exact .inl ⟨b', by rw [← hs g (by simp [slotsOf, hg])]; exact h1, h2⟩
    · exact .inr ⟨by rw [← hs g (by simp [slotsOf, hg])]; exact h1, h2⟩

theorem Det.congr {o : SO} {φ φ' : FSt} {δ : Delta} {e : En} (h : Det nm o φ δ e) (hs : ∀ t ∈ e.rs, φ.slot t = φ'.slot t) (hn : ∀ i ∈ e.rn, φ.res i = φ'.res i) : Det nm o φ' δ e := by
  rcases h with ⟨h1, rfl, rfl⟩ | ⟨h1, r, h2, h3, rfl, rfl⟩
  · exact .inl ⟨h1.congr hs, rfl, rfl⟩
  · have hop : ∀ x ∈ o.op.operands, evF φ.slot x = evF φ'.slot x := fun x hx => evF_congr fun t ht => hs t (by
      subst ht; exact List.mem_append_right _ (mem_tmpsOf hx))
    obtain ⟨e1, e2⟩ := opFn_congr (rs := (need (evF φ.slot) o.op).map fun i => (i, φ.res i)) (n := nm + o.idx) hop
    have e3 : ((need (evF φ.slot) o.op).map fun i => (i, φ.res i)) = ((need (evF φ'.slot) o.op).map fun i => (i, φ'.res i)) := by
      rw [← e2]
      exact List.map_congr_left fun i hi => by rw [hn i hi]
    refine .inr ⟨h1.congr hs, r, ?_, h3, rfl, by rw [e2]⟩
    rw [← e3, ← e1]; exact h2

theorem putF_ne {slot : Nat → SV} {ws : Option (Nat × SV)} {t : Nat} (h : ∀ d v, ws = some (d, v) → d ≠ t) : putF slot ws t = slot t := by
  cases ws with
  | none => rfl
  | some p =>
    obtain ⟨d, v⟩ := p
    exact up_ne _ _ (Ne.symm (h d v rfl))

theorem putF_comm {slot : Nat → SV} {a b : Option (Nat × SV)} (h : ∀ d v d' v', a = some (d, v) → b = some (d', v') → d ≠ d') : putF (putF slot a) b = putF (putF slot b) a := by
  cases a with
  | none => rfl
  | some p =>
    cases b with
    | none => rfl
    | some q =>
      obtain ⟨d, v⟩ := p
      obtain ⟨d', v'⟩ := q
      have := h d v d' v' rfl rfl
      funext x
      simp only [putF]
      by_cases h1 : x = d
      · subst h1; rw [up_ne _ _ this, up_same, up_same]
      · by_cases h2 : x = d'
        · subst h2; rw [up_same, up_ne _ _ h1, up_same]
        · rw [up_ne _ _ h2, up_ne _ _ h1, up_ne _ _ h1, up_ne _ _ h2]

/-- One operation carried out first, the others behind it. -/
def HeadF (P : Program) (hf : Fr) (nm nc : Nat) (dr : Bool) (k : SO) (L : List SO) (φ : FSt) (tr : List En) (K : FSt → Prop) : Prop :=
  (∃ δ e, Det nm k φ δ e ∧ (dr = true → okAll tr e k.anc) ∧ Ff P hf nm nc dr L (δ.app φ) tr K) ∨
  (guardOk k φ.slot true ∧ ∃ f args fp, k.op = .call f args ∧ (dr = true → okAll tr (callEn k fp (nc + 8 * k.idx)) k.anc) ∧
    CallP P hf (evF φ.slot f) (args.map (evF φ.slot)) φ.res (nc + 8 * k.idx) fp fun v upd => Ff P hf nm nc dr L ((dl k v upd).app φ) tr K)

theorem HeadF.of {k : SO} {L : List SO} {φ : FSt} {tr : List En} {K : FSt → Prop} (h : Ff P hf nm nc dr (k :: L) φ tr K) : HeadF P hf nm nc dr k L φ tr K := by
  rcases h with ⟨δ, e, h1, h2, h3⟩ | ⟨h1, _, f, args, fp, h3, h4, h5⟩
  · exact .inl ⟨δ, e, h1, h2, h3.sub (fun t ht => List.mem_cons_of_mem _ ht)⟩
  · exact .inr ⟨h1, f, args, fp, h3, h4, h5.mono (fun _ _ => rfl) (fun v upd _ hk => hk.sub (fun t ht => List.mem_cons_of_mem _ ht))⟩

theorem HeadF.swap {j k : SO} {L : List SO} {φ : FSt} {tr : List En} {K : FSt → Prop} {δj : Delta} {ej : En} (hj1 : Det nm j φ δj ej) (hdr : dr = true) (hj2 : dr = true → okAll tr ej j.anc)
    (h : HeadF P hf nm nc dr k L (δj.app φ) (ej :: tr) K) (hjk : j.idx ∉ k.anc) : HeadF P hf nm nc dr k (j :: L) φ tr K := by
  obtain ⟨i1, i2, i3, i4, i5, i6⟩ := hj1.idx
  rcases h with ⟨δk, ek, hk1, hk2, h⟩ | ⟨hg, f, args, fp, hop, hk2, hcall⟩
  · obtain ⟨k1, k2, k3, k4, k5, k6⟩ := hk1.idx
    have hfree : Free ej ek := (hk2 hdr ej (by simp)).resolve_left (by rw [i1]; exact hjk)
    have hs1 : ∀ t ∈ ek.rs, (δj.app φ).slot t = φ.slot t := fun t ht => putF_ne fun d v hd e => hfree.a d (i6 d v hd) (e ▸ ht)
    have hn1 : ∀ i ∈ ek.rn, (δj.app φ).res i = φ.res i := fun i hi => upds_not fun hm => by
      obtain ⟨p, hp, rfl⟩ := List.mem_map.1 hm
      exact hfree.d _ (i5 p hp) hi
    have hs2 : ∀ t ∈ ej.rs, φ.slot t = (δk.app φ).slot t := fun t ht => (putF_ne fun d v hd e => hfree.c d (k6 d v hd) (e ▸ ht)).symm
    have hn2 : ∀ i ∈ ej.rn, φ.res i = (δk.app φ).res i := fun i hi => (upds_not fun hm => by
      obtain ⟨p, hp, rfl⟩ := List.mem_map.1 hm
      exact hfree.g _ (k5 p hp) hi).symm
    have heq : δk.app (δj.app φ) = δj.app (δk.app φ) := by
      unfold Delta.app
      simp only [FSt.mk.injEq]
      refine ⟨putF_comm fun d v d' v' h1 h2 e => hfree.b d (i6 d v h1) (e ▸ k6 d' v' h2), upds_comm fun x hx hx' => ?_⟩
      obtain ⟨p, hp, rfl⟩ := List.mem_map.1 hx
      obtain ⟨q, hq, hqe⟩ := List.mem_map.1 hx'
      exact hfree.f _ (i5 p hp) (hqe ▸ k5 q hq)
    refine .inl ⟨δk, ek, hk1.congr hs1 hn1, fun hd => (hk2 hd).sub (fun t ht => List.mem_cons_of_mem _ ht), .inl ⟨δj, ej, hj1.congr hs2 hn2, hj2, ?_⟩⟩
    rw [← heq]; exact h
  · have hfree : Free ej (callEn k fp (nc + 8 * k.idx)) := (hk2 hdr ej (by simp)).resolve_left (by rw [i1]; exact hjk)
    have hs1 : ∀ t ∈ slotsOf k, (δj.app φ).slot t = φ.slot t := fun t ht => putF_ne fun d v hd e => hfree.a d (i6 d v hd) (e ▸ ht)
    have hev : ∀ x ∈ k.op.operands, evF (δj.app φ).slot x = evF φ.slot x := fun x hx => evF_congr fun t ht => hs1 t (by
      subst ht; exact List.mem_append_right _ (mem_tmpsOf hx))
    rw [hop] at hev
    have hargs : args.map (evF (δj.app φ).slot) = args.map (evF φ.slot) := List.map_congr_left fun x hx => hev x (by simp [SOp.operands, hx])
    rw [hev f (by simp [SOp.operands]), hargs] at hcall
    refine .inr ⟨hg.congr hs1, f, args, fp, hop, fun hd => (hk2 hd).sub (fun t ht => List.mem_cons_of_mem _ ht), hcall.mono ?_ ?_⟩
    · intro i hi
      exact (upds_not fun hm => by
        obtain ⟨p, hp, rfl⟩ := List.mem_map.1 hm
        exact hfree.d _ (i5 p hp) hi).symm
    · intro v upd hu h
      refine .inl ⟨δj, ej, hj1.congr ?_ ?_, hj2, ?_⟩
      · intro t ht
        refine (putF_ne fun d v' hd e => ?_).symm
        simp only [dl, Option.map_eq_some_iff, Prod.mk.injEq] at hd
        obtain ⟨d', hd', rfl, _⟩ := hd
        exact hfree.c d' (by simp [callEn, hd']) (e ▸ ht)
      · intro i hi
        exact (upds_not fun hm => by
          obtain ⟨p, hp, rfl⟩ := List.mem_map.1 hm
          exact hfree.g _ (hu p hp) hi).symm
      · have heq : (dl k v upd).app (δj.app φ) = δj.app ((dl k v upd).app φ) := by
          unfold Delta.app
          simp only [FSt.mk.injEq]
          refine ⟨putF_comm fun d v' d' v'' h1 h2 e => ?_, upds_comm fun x hx hx' => ?_⟩
          · simp only [dl, Option.map_eq_some_iff, Prod.mk.injEq] at h2
            obtain ⟨d'', hd'', rfl, _⟩ := h2
            exact hfree.b d (i6 d v' h1) (by simp [callEn, hd'', e])
          · obtain ⟨p, hp, rfl⟩ := List.mem_map.1 hx
            obtain ⟨q, hq, hqe⟩ := List.mem_map.1 hx'
            exact hfree.f _ (i5 p hp) (hqe ▸ hu q hq)
        rw [← heq]; exact h

theorem Ff.bubble {k : SO} {L2 : List SO} {K : FSt → Prop} (hdr : dr = true) : ∀ {L1 : List SO} {φ : FSt} {tr : List En}, Ff P hf nm nc dr (L1 ++ k :: L2) φ tr K → (∀ j ∈ L1, j.idx ∉ k.anc) → HeadF P hf nm nc dr k (L1 ++ L2) φ tr K
  | [], _, _, h, _ => HeadF.of h
  | j :: L1, φ, tr, h, hj => by
    rcases h with ⟨δj, ej, hj1, hj2, h⟩ | ⟨_, hc, _⟩
    · exact HeadF.swap hj1 hdr hj2 (Ff.bubble hdr h (fun j' hj' => hj j' (by simp [hj']))) (hj j (by simp))
    · exact absurd (hc hdr k (by simp)) (hj j (by simp))

end
end Sx

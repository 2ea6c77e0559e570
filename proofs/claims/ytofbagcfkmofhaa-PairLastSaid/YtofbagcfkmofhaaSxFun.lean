/- Functions under the engine: states told otherwise, loops by what holds round by round, contracts out of formulas. -/
import Derived.Test.YtofbagcfkmofhaaSxWp
set_option linter.unusedVariables false
set_option linter.unusedSimpArgs false
namespace Sx
open Go

/-- One value, told otherwise: the new telling, the old one. A nil slice may be told as a row of no places, under one of the names from lo to hi. -/
def cvW (lo hi : Nat) : CV → CV → Prop
  | .any, _ => True
  | .slc j sz 0 0 none, .val (.slice none 0 0) => lo ≤ j ∧ j < hi ∧ 0 < sz
  | c, d => d = c

def cvsW (lo hi : Nat) : List CV → List CV → Prop
  | [], [] => True
  | a :: l, b :: m => cvW lo hi a b ∧ cvsW lo hi l m
  | _, _ => False

def slotW (lo hi : Nat) : SV → SV → Prop
  | .any, _ => True
  | .cv c, .cv d => cvW lo hi c d
  | .agg l, .agg m => cvsW lo hi l m
  | v, u => u = v

def slotsW (lo hi : Nat) (ν : Nat → Option Nat) : List SV → List SV → Prop
  | [], [] => True
  | a :: l, b :: m => slotW lo hi a (b.ren ν) ∧ slotsW lo hi ν l m
  | _, _ => False

/-- One resource, told otherwise: the new telling, the old one. -/
def retell (lo hi : Nat) : Res → Res → Prop
  | .gone, _ => True
  | .ro sz m g, .ro sz' m' f => sz' = sz ∧ m ≤ m' ∧ ∀ i, i < m → f i = g i
  | .cells l0, .cells l => cvsW lo hi l0 l
  | .recs sz m g, .recs sz' m' f => sz' = sz ∧ m ≤ m' ∧ ∀ i, i < m → f i = g i
  | .recs sz m g, .cells l => 0 < sz ∧ m * sz ≤ l.length ∧ ∀ i, i < m → (l.drop (i * sz)).take sz = g i
  | .rmap l0, .rmap l => l = l0
  | .chan c0 q0, .chan c q => c = c0 ∧ q = q0
  | _, _ => False

section
variable {lo hi : Nat} {β : Env}

theorem cvW_den (hβ : ∀ j, lo ≤ j → j < hi → β j = some ⟨none, 0⟩) {c d : CV} {x : Value} (h : cvW lo hi c d) (hd : CV.Den β d x) : CV.Den β c x := by
  unfold cvW at h
  split at h
  · exact CV.den_plain _ _ hd
  · obtain ⟨h1, h2, h3⟩ := h
    obtain ⟨rfl, _⟩ := hd
    exact ⟨none, 0, hβ _ h1 h2, by simp, h3, by simp, none, by simp, by simp⟩
  · subst h; exact hd

theorem cvsW_den (hβ : ∀ j, lo ≤ j → j < hi → β j = some ⟨none, 0⟩) : ∀ {l m : List CV} {vs : List Value}, cvsW lo hi l m → CV.DenL β m vs → CV.DenL β l vs
  | [], [], _, _, hd => hd
  | a :: l, b :: m, v :: vs, h, hd => ⟨cvW_den hβ h.1 hd.1, cvsW_den hβ h.2 hd.2⟩
  | a :: l, b :: m, [], _, hd => hd.elim
  | [], _ :: _, _, h, _ => h.elim
  | _ :: _, [], _, h, _ => h.elim

theorem cvsW_length : ∀ {l m : List CV}, cvsW lo hi l m → l.length = m.length
  | [], [], _ => rfl
  | a :: l, b :: m, h => by simp [cvsW_length h.2]
  | [], _ :: _, h => h.elim
  | _ :: _, [], h => h.elim

theorem slotW_den (hβ : ∀ j, lo ≤ j → j < hi → β j = some ⟨none, 0⟩) {c d : SV} {x : Value} (h : slotW lo hi c d) (hd : SV.Den β d x) : SV.Den β c x := by
  unfold slotW at h
  split at h
  · trivial
  · exact cvW_den hβ h hd
  · obtain ⟨vs, e, hv⟩ := hd
    exact ⟨vs, e, cvsW_den hβ h hv⟩
  · subst h; exact hd

theorem cvW_refl (c : CV) : cvW lo hi c c := by unfold cvW; split <;> simp_all
theorem cvsW_refl : ∀ l : List CV, cvsW lo hi l l
  | [] => trivial
  | c :: l => ⟨cvW_refl c, cvsW_refl l⟩
theorem slotW_refl (v : SV) : slotW lo hi v v := by
  cases v <;> simp only [slotW]
  · exact cvW_refl _
  · exact cvsW_refl _

theorem retell_sat (hβ : ∀ j, lo ≤ j → j < hi → β j = some ⟨none, 0⟩) {hf : Hp} {r' r : Res} {bd : Option Bd} {p : Hp} (h : retell lo hi r' r) (hs : r.Sat hf β bd p) : r'.Sat hf β bd p := by
  cases r' with
  | gone => trivial
  | cells l0 =>
    cases r <;> first | exact h.elim | skip
    obtain ⟨b, vs, t, fr, e1, e2, e3, e4⟩ := hs
    have hl := cvsW_length h
    exact ⟨b, vs, t, fr, by rw [e1, hl], cvsW_den hβ h e2, e3, by rw [hl]; exact e4⟩
  | rmap l0 => cases r <;> first | exact h.elim | (subst h; exact hs)
  | rmapP _ _ _ => cases r <;> exact h.elim
  | chan c0 q0 => cases r <;> first | exact h.elim | (obtain ⟨rfl, rfl⟩ := h; exact hs)
  | ro sz m g =>
    cases r <;> first | exact h.elim | skip
    rename_i sz' m' f
    obtain ⟨rfl, h1, h2⟩ := h
    obtain ⟨h0, ad, cap, e1, e2, e3⟩ := hs
    refine ⟨h0, ad, cap, e1, Nat.le_trans (Nat.mul_le_mul_right _ h1) e2, ?_⟩
    rcases e3 with e3 | ⟨a, c1, c2, c3⟩
    · left; omega
    · exact .inr ⟨a, c1, c2, fun i hi => by rw [← h2 i hi]; exact c3 i (by omega)⟩
  | recs sz m g =>
    cases r <;> first | exact h.elim | skip
    · rename_i l
      obtain ⟨h0, h1, h2⟩ := h
      obtain ⟨b, vs, t, fr, e1, e2, e3, e4⟩ := hs
      exact ⟨h0, some ⟨b, 0, none⟩, l.length, e1, h1, .inr ⟨b, vs, t, fr, rfl, CV.denL_length _ _ e2, e3, e4, fun i hi => by
        rw [← h2 i hi]; exact CV.denL_take _ _ _ (CV.denL_drop _ _ _ e2)⟩⟩
    · rename_i sz' m' f
      obtain ⟨rfl, h1, h2⟩ := h
      obtain ⟨h0, ad, cap, e1, e2, e3⟩ := hs
      refine ⟨h0, ad, cap, e1, Nat.le_trans (Nat.mul_le_mul_right _ h1) e2, ?_⟩
      rcases e3 with e3 | ⟨b, vs, t, fr, k1, k2, k3, k4, k5⟩
      · exact .inl e3
      · exact .inr ⟨b, vs, t, fr, k1, k2, k3, k4, fun i hi => by rw [← h2 i hi]; exact k5 i (by omega)⟩

end

/-- What a fresh empty name may hold. -/
def emptyR : Res → Prop
  | .recs sz 0 _ => 0 < sz
  | .gone => True
  | _ => False

def ressW (ν : Nat → Option Nat) (names : List Nat) (e : Nat) (rs : List (Nat × Res)) : List (Nat × Res) → Prop
  | [] => True
  | (j, r) :: l => ((j < names.length ∧ retell names.length (names.length + e) r ((lk rs (names.getD j 0)).ren ν)) ∨ (names.length ≤ j ∧ j < names.length + e ∧ emptyR r)) ∧ ressW ν names e rs l

def prefixB (kp : Nat) (names : List Nat) : Bool := decide (kp ≤ names.length) && (List.range kp).all fun i => names.getD i 0 == i

/-- A state told otherwise: fewer slots known, the names told anew, the resources retold; e fresh names of nothing. -/
structure WeakBy (kp : Nat) (names : List Nat) (e : Nat) (st st' : St) : Prop where
  pre : prefixB kp names = true
  nodup : nodupB names = true
  nx : st'.nx = names.length + e
  slots : slotsW names.length (names.length + e) (nuOf names) st'.sl st.sl
  ress : ressW (nuOf names) names e st.rs st'.rs

def Weak (hf : Hp) (kp : Nat) (st st' : St) : Prop := ∀ (c : Cx) (a : Act) (w : World), c.kp = kp → RelSt hf c st a w → RelSt hf c st' a w

theorem Weak.refl (hf : Hp) (kp : Nat) (st : St) : Weak hf kp st st := fun _ _ _ _ h => h
theorem Weak.trans {hf : Hp} {kp : Nat} {a b c : St} (h : Weak hf kp a b) (k : Weak hf kp b c) : Weak hf kp a c := fun x act w hx hr => k x act w hx (h x act w hx hr)

theorem slotsW_length {lo hi : Nat} {ν : Nat → Option Nat} : ∀ {l m : List SV}, slotsW lo hi ν l m → l.length = m.length
  | [], [], _ => rfl
  | _ :: l, _ :: m, h => by simp [slotsW_length h.2]
  | [], _ :: _, h => h.elim
  | _ :: _, [], h => h.elim

theorem slotsW_get {lo hi : Nat} {ν : Nat → Option Nat} : ∀ {l m : List SV} (i : Nat), slotsW lo hi ν l m → slotW lo hi (l.getD i .any) ((m.getD i .any).ren ν)
  | [], [], _, _ => by simp [slotW]
  | a :: l, b :: m, 0, h => h.1
  | a :: l, b :: m, i + 1, h => by simpa using slotsW_get i h.2
  | [], _ :: _, _, h => h.elim
  | _ :: _, [], _, h => h.elim

theorem ressW_get {ν : Nat → Option Nat} {names : List Nat} {e : Nat} {rs : List (Nat × Res)} : ∀ {l : List (Nat × Res)} (j : Nat), ressW ν names e rs l →
    lk l j = .gone ∨ (j < names.length ∧ retell names.length (names.length + e) (lk l j) ((lk rs (names.getD j 0)).ren ν)) ∨ (names.length ≤ j ∧ j < names.length + e ∧ emptyR (lk l j))
  | [], _, _ => .inl rfl
  | (i, r) :: l, j, h => by
    simp only [lk]
    split
    · rename_i e; subst e; exact .inr h.1
    · exact ressW_get j h.2

theorem nuOf_some {names : List Nat} {i j : Nat} (h : nuOf names i = some j) : j < names.length ∧ names.getD j 0 = i := by
  unfold nuOf at h
  rw [List.idxOf?, List.findIdx?_eq_some_iff_getElem] at h
  obtain ⟨hlt, heq, _⟩ := h
  refine ⟨hlt, ?_⟩
  rw [List.getD_eq_getElem?_getD, List.getElem?_eq_getElem hlt]
  simpa using heq

theorem nodup_getD {names : List Nat} (h : names.Nodup) {i j : Nat} (hi : i < names.length) (hj : j < names.length) (he : names.getD i 0 = names.getD j 0) : i = j := by
  rw [List.getD_eq_getElem?_getD, List.getElem?_eq_getElem hi, List.getD_eq_getElem?_getD, List.getElem?_eq_getElem hj] at he
  simp only [Option.getD_some] at he
  rcases Nat.lt_trichotomy i j with hlt | hlt | hlt
  · exact absurd he (List.pairwise_iff_getElem.1 h i j hi hj hlt)
  · exact hlt
  · exact absurd he.symm (List.pairwise_iff_getElem.1 h j i hj hi hlt)

theorem Weak.core {hf : Hp} {st st' : St} (names : List Nat) (e : Nat) {c : Cx} {a : Act} {w : World} (h : WeakBy c.kp names e st st') {β : Env} {hh : Nat → Hp} (hfit : FitsF β (fun i => st.sl.getD i .any) a c.n) (hrel : Rel hf w β (lk st.rs) hh)
    (hB : ∀ i, i < c.kp → β i = c.B i) :
    ∃ β' h', Env.via β β' (nuOf names) ∧ (∀ j, names.length ≤ j → j < names.length + e → β' j = some ⟨none, 0⟩) ∧ FitsF β' (fun i => st'.sl.getD i .any) a c.n ∧ Rel hf w β' (lk st'.rs) h' ∧ (∀ i, st'.nx ≤ i → β' i = none) ∧ (∀ i, i < c.kp → β' i = c.B i) := by
  have hpre := h.pre
  simp only [prefixB, Bool.and_eq_true, decide_eq_true_eq, List.all_eq_true, List.mem_range, beq_iff_eq] at hpre
  have hnd := nodupB_iff h.nodup
  let β' : Env := fun j => if j < names.length then β (names.getD j 0) else if j < names.length + e then some ⟨none, 0⟩ else none
  let h' : Nat → Hp := fun j => if j < names.length then hh (names.getD j 0) else fun _ => none
  have hvia : Env.via β β' (nuOf names) := by
    intro i j bd hn hb
    obtain ⟨h1, h2⟩ := nuOf_some hn
    show (if j < names.length then β (names.getD j 0) else _) = _
    rw [if_pos h1, h2]; exact hb
  have hemp : ∀ j, names.length ≤ j → j < names.length + e → β' j = some ⟨none, 0⟩ := fun j h1 h2 => by
    show (if j < names.length then _ else if j < names.length + e then _ else _) = _
    rw [if_neg (by omega), if_pos h2]
  refine ⟨β', h', hvia, hemp, ⟨hfit.size, fun i => ?_⟩, ⟨hrel.frame, fun j b o hb => ?_, fun j j' b hjj hb => ?_, fun j b hb => ?_, fun j => ?_⟩, fun i hi => ?_, fun i hi => ?_⟩
  · exact slotW_den hemp (slotsW_get i h.slots) (SV.den_ren hvia _ _ (hfit.den i))
  · simp only [h'] at hb
    split at hb
    · exact hrel.sub _ _ _ hb
    · cases hb
  · simp only [h'] at hb ⊢
    split at hb
    · rename_i h1
      split
      · rename_i h2
        exact hrel.disj _ _ b (fun e => hjj (nodup_getD hnd h1 h2 e)) hb
      · rfl
    · exact absurd rfl hb
  · simp only [h'] at hb
    split at hb
    · exact hrel.apart _ b hb
    · exact absurd rfl hb
  · rcases ressW_get j h.ress with h1 | ⟨h1, h2⟩ | ⟨h1, h2, h3⟩
    · rw [h1]; trivial
    · refine retell_sat hemp h2 ?_
      have e1 : β' j = β (names.getD j 0) := if_pos h1
      have e2 : h' j = hh (names.getD j 0) := if_pos h1
      rw [e1, e2]
      exact Res.sat_ren hvia (fun _ _ _ _ _ _ hc => hc) (hrel.sat _)
    · rw [hemp j h1 h2]
      unfold emptyR at h3
      split at h3
      · rename_i he; rw [he]; exact ⟨h3, none, 0, rfl, by simp, .inl rfl⟩
      · rename_i he; rw [he]; trivial
      · exact h3.elim
  · rw [h.nx] at hi
    show (if i < names.length then _ else if i < names.length + e then _ else _) = _
    rw [if_neg (by omega), if_neg (by omega)]
  · have e1 : β' i = β (names.getD i 0) := if_pos (by omega)
    rw [e1, hpre.2 i (by omega)]
    exact hB i hi

theorem Weak.by {hf : Hp} {kp : Nat} {st st' : St} (names : List Nat) (e : Nat) (h : WeakBy kp names e st st') : Weak hf kp st st' := by
  intro c a w hkp hr
  subst hkp
  obtain ⟨⟨β, hh, hfit, hrel, hnx, hB⟩, hlen, hk, hext, hdef⟩ := hr
  obtain ⟨β', h', _, _, h1, h2, h3, h4⟩ := Weak.core names e h hfit hrel hB
  have hpre := h.pre
  simp only [prefixB, Bool.and_eq_true, decide_eq_true_eq] at hpre
  exact ⟨⟨β', h', h1, h2, h3, h4⟩, by rw [slotsW_length h.slots]; exact hlen, by rw [h.nx]; omega, hext, hdef⟩

section
variable {P : Program} {hf : Hp} {kp : Nat}

theorem least (J : Nat → Prop) : ∀ (n m : Nat), m ≤ n → J m → ∃ k, J k ∧ ∀ j, J j → k ≤ j
  | 0, m, h, hj => ⟨m, hj, fun j _ => by omega⟩
  | n + 1, m, h, hj => by
    by_cases hx : ∃ i, i < m ∧ J i
    · obtain ⟨i, hi, hji⟩ := hx
      exact least J n i (by omega) hji
    · exact ⟨m, hj, fun j h2 => Nat.le_of_not_lt fun h3 => hx ⟨j, h3, h2⟩⟩

open Classical in
noncomputable def leastOf (J : Nat → Prop) : Nat := if h : ∃ k, J k ∧ ∀ j, J j → k ≤ j then Classical.choose h else 0

theorem leastOf_le {J : Nat → Prop} {m : Nat} (h : J m) : leastOf J ≤ m := by
  have hx := least J m m (Nat.le_refl _) h
  unfold leastOf; rw [dif_pos hx]
  exact (Classical.choose_spec hx).2 m h

theorem leastOf_spec {J : Nat → Prop} {m : Nat} (h : J m) : J (leastOf J) := by
  have hx := least J m m (Nat.le_refl _) h
  unfold leastOf; rw [dif_pos hx]
  exact (Classical.choose_spec hx).1

theorem LoopC.inv (hfollow : P.follows .mixedOrders = true) {body : SC} {st : St} {K : Ex → St → Prop} {ι : Type} (I : ι → St) (C : ι → Prop) (μ : ι → Nat) (x0 : ι) (h0 : C x0) (hw : Weak hf kp st (I x0))
    {t : Tok K} (hstep : ∀ x, C x → wpC P hf kp body (I x) (fun ex st' => match ex with
      | .normal => ∃ y, C y ∧ μ y < μ x ∧ Weak hf kp st' (I y)
      | .exit id => K (.exit id) st'
      | .ret => K .ret st') ⟨⟩) : LoopC P hf kp body st K t := by
  intro c code a w hkp hc hr
  let J : Act → World → Nat → Prop := fun a w m => ∃ x, C x ∧ RelSt hf c (I x) a w ∧ μ x = m
  refine wp_loop (fun a w => ∃ m, J a w m) (fun a w => leastOf (J a w)) ⟨μ x0, x0, h0, hw c a w hkp hr, rfl⟩ ?_
  rintro a w ⟨m0, hJ0⟩
  obtain ⟨x, hx, hrx, hm⟩ := leastOf_spec hJ0
  have hwp := wpC_sound hfollow body (code := code) (c := c) (a := a) (w := w) hc (by rw [hkp]; exact hstep x hx) hrx
  refine wp_mono hwp ?_
  rintro e a' w' ⟨ex, st', he, hk, hr'⟩
  cases e <;> simp only [exOf, Option.some.injEq, reduceCtorEq] at he
  · subst he
    obtain ⟨y, hy, hlt, hwy⟩ := hk
    have hJ' : J a' w' (μ y) := ⟨y, hy, hwy c a' w' hkp hr', rfl⟩
    have h1 := leastOf_le hJ'
    exact ⟨⟨_, hJ'⟩, by omega⟩
  · subst he; exact ⟨_, st', rfl, hk, hr'⟩
  · subst he; exact ⟨_, st', rfl, hk, hr'⟩

theorem SemC.into (hfollow : P.follows .mixedOrders = true) {body : SC} {st st' : St} {K : Ex → St → Prop} {t : Tok K} (hw : Weak hf kp st st') (h : wpC P hf kp body st' K t) : SemC P hf kp body st K := by
  intro c code a w hkp hc hr
  subst hkp
  exact wpC_sound hfollow body hc h (hw c a w rfl hr)

theorem JoinC.of (hfollow : P.follows .mixedOrders = true) {A : (K : Ex → St → Prop) → Tok K → Prop} {b : SC} {K : Ex → St → Prop} {ι : Type} (M : ι → St) (G : ι → Prop)
    (h1 : A (joinK (fun st' => ∃ x, G x ∧ Weak hf kp st' (M x)) K) ⟨⟩) (h2 : ∀ x, G x → wpC P hf kp b (M x) K ⟨⟩) : JoinC P hf kp A b K :=
  ⟨_, h1, fun st' ⟨x, hx, hw⟩ => SemC.into hfollow hw (h2 x hx)⟩

end
end Sx

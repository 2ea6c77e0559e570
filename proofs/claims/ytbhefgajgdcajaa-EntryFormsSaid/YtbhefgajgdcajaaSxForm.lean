/- The formula of a region, reckoned over lists. -/
import Derived.Test.YtbhefgajgdcajaaSxCall
set_option linter.unusedVariables false
set_option linter.unusedSimpArgs false
namespace Sx
open Go
universe u

def setR : List (Nat × Res) → Nat → Res → List (Nat × Res)
  | [], i, r => [(i, r)]
  | (j, q) :: l, i, r => if j = i then (i, r) :: l else (j, q) :: setR l i r

theorem lk_setR : ∀ (l : List (Nat × Res)) (i : Nat) (r : Res), lk (setR l i r) = up (lk l) i r
  | [], i, r => by
    funext x
    simp only [setR, lk, up]
  | (j, q) :: l, i, r => by
    funext x
    simp only [setR]
    split
    · rename_i h; subst h
      simp only [lk, up]
      split <;> rfl
    · rename_i h
      have := congrFun (lk_setR l i r) x
      simp only [lk, up] at this ⊢
      by_cases hx : x = j
      · subst hx; rw [if_pos rfl, if_neg h, if_pos rfl]
      · rw [if_neg hx, if_neg hx, this]

def setRs (l : List (Nat × Res)) : List (Nat × Res) → List (Nat × Res)
  | [] => l
  | (i, r) :: u => setRs (setR l i r) u

theorem lk_setRs : ∀ (u l : List (Nat × Res)), lk (setRs l u) = upds (lk l) u
  | [], _ => rfl
  | (i, r) :: u, l => by simp only [setRs, upds]; rw [lk_setRs u, lk_setR]

def setS (sl : List SV) : Option Nat → SV → List SV
  | some d, v => sl.set d v
  | none, _ => sl

def okB (dr : Bool) (tr : List En) (e : En) (anc : List Nat) : Bool := !dr || tr.all fun t => anc.contains t.idx || free t e

theorem okB_iff {dr : Bool} {tr : List En} {e : En} {anc : List Nat} (h : okB dr tr e anc = true) (hd : dr = true) : okAll tr e anc := by
  intro t ht
  simp only [okB, hd, Bool.not_true, Bool.false_or, List.all_eq_true, Bool.or_eq_true] at h
  rcases h t ht with h | h
  · exact .inl (by simpa using h)
  · exact .inr (free_iff.1 h)

/-- What bears it is not rewritten by 'simp'. -/
structure Tok {α : Sort u} (a : α) : Type where

/-- A parting of the ways: closed by 'CondC.of'. -/
def CondC (x : Bool) (A B : Prop) (_ : Tok A) (_ : Tok B) : Prop := (x = true → A) ∧ (x = false → B)

theorem CondC_true {A B : Prop} {s : Tok A} {t : Tok B} : CondC true A B s t = A := by simp [CondC]
theorem CondC_false {A B : Prop} {s : Tok A} {t : Tok B} : CondC false A B s t = B := by simp [CondC]
theorem CondC.of {x : Bool} {A B : Prop} {s : Tok A} {t : Tok B} (h1 : x = true → A) (h2 : x = false → B) : CondC x A B s t := ⟨h1, h2⟩

/-- A call in the formula: closed by 'CallC.of_spec'. -/
def CallC (P : Program) (hf : Fr) (f : SV) (args : List SV) (rs : List (Nat × Res)) (n : Nat) (chk : List Nat → Bool) (C : SV → List (Nat × Res) → List Nat → Prop) (_ : Tok C) : Prop :=
  ∃ fp, chk fp = true ∧ CallP P hf f args (lk rs) n fp fun v upd => C v upd fp

def stepC (P : Program) (hf : Fr) (nm nc : Nat) (dr : Bool) (o : SO) (rest : List SO) (sl : List SV) (rs : List (Nat × Res)) (tr : List En) (C : List SV → List (Nat × Res) → En → Prop) (_ : Tok C) : Prop :=
  match o.op with
  | .call f args => (!dr || rest.all fun o' => o'.anc.contains o.idx) = true ∧
      CallC P hf (ev sl f) (args.map (ev sl)) rs (nc + 8 * o.idx) (fun fp => okB dr tr (callEn o fp (nc + 8 * o.idx)) o.anc)
        (fun v upd fp => C (setS sl o.dst v) (setRs rs upd) (callEn o fp (nc + 8 * o.idx))) ⟨⟩
  | op => match opFn (ev sl) op ((need (ev sl) op).map fun i => (i, lk rs i)) (nm + o.idx) with
    | some r => r.obl ∧ okB dr tr (opEn o (need (ev sl) op) r) o.anc = true ∧ C (setS sl o.dst r.val) (setRs rs r.upd) (opEn o (need (ev sl) op) r)
    | none => False

def Fc (P : Program) (hf : Fr) (nm nc : Nat) (dr : Bool) : List SO → List SV → List (Nat × Res) → List En → (K : List SV → List (Nat × Res) → Prop) → Tok K → Prop
  | [], sl, rs, _, K, _ => K sl rs
  | o :: L, sl, rs, tr, K, t =>
    match o.guard with
    | none => stepC P hf nm nc dr o L sl rs tr (fun sl' rs' e => Fc P hf nm nc dr L sl' rs' (e :: tr) K t) ⟨⟩
    | some (g, w) => match sl.getD g .any with
      | .cv (.val (.bool b)) => CondC (b == w)
        (stepC P hf nm nc dr o L (sl.set g (.cv (.val (.bool w)))) rs tr (fun sl' rs' e => Fc P hf nm nc dr L sl' rs' (e :: tr) K t) ⟨⟩)
        (okB dr tr (skipEn o) o.anc = true ∧ Fc P hf nm nc dr L (setS (sl.set g (.cv (.val (.bool (!w))))) o.dst (.tup [])) rs (skipEn o :: tr) K t) ⟨⟩ ⟨⟩
      | .tup [] => okB dr tr (skipEn o) o.anc = true ∧ Fc P hf nm nc dr L (setS sl o.dst (.tup [])) rs (skipEn o :: tr) K t
      | _ => False

/-- The formula of a region that draws no order: no trace. -/
def stepS (P : Program) (hf : Fr) (nm nc : Nat) (o : SO) (sl : List SV) (rs : List (Nat × Res)) (C : List SV → List (Nat × Res) → Prop) (_ : Tok C) : Prop :=
  match o.op with
  | .call f args => CallC P hf (ev sl f) (args.map (ev sl)) rs (nc + 8 * o.idx) (fun _ => true) (fun v upd _ => C (setS sl o.dst v) (setRs rs upd)) ⟨⟩
  | op => match opFn (ev sl) op ((need (ev sl) op).map fun i => (i, lk rs i)) (nm + o.idx) with
    | some r => r.obl ∧ C (setS sl o.dst r.val) (setRs rs r.upd)
    | none => False

def Fs (P : Program) (hf : Fr) (nm nc : Nat) : List SO → List SV → List (Nat × Res) → (K : List SV → List (Nat × Res) → Prop) → Tok K → Prop
  | [], sl, rs, K, _ => K sl rs
  | o :: L, sl, rs, K, t =>
    match o.guard with
    | none => stepS P hf nm nc o sl rs (fun sl' rs' => Fs P hf nm nc L sl' rs' K t) ⟨⟩
    | some (g, w) => match sl.getD g .any with
      | .cv (.val (.bool b)) => CondC (b == w)
        (stepS P hf nm nc o (sl.set g (.cv (.val (.bool w)))) rs (fun sl' rs' => Fs P hf nm nc L sl' rs' K t) ⟨⟩)
        (Fs P hf nm nc L (setS (sl.set g (.cv (.val (.bool (!w))))) o.dst (.tup [])) rs K t) ⟨⟩ ⟨⟩
      | .tup [] => Fs P hf nm nc L (setS sl o.dst (.tup [])) rs K t
      | _ => False

theorem CallC.imp {P : Program} {hf : Fr} {f : SV} {args : List SV} {rs : List (Nat × Res)} {n : Nat} {chk chk' : List Nat → Bool} {C C' : SV → List (Nat × Res) → List Nat → Prop} {t : Tok C} {t' : Tok C'} (h : CallC P hf f args rs n chk C t)
    (h1 : ∀ fp, chk fp = true → chk' fp = true) (h2 : ∀ v u fp, C v u fp → C' v u fp) : CallC P hf f args rs n chk' C' t' := by
  obtain ⟨fp, k1, k2⟩ := h
  exact ⟨fp, h1 fp k1, k2.mono (fun _ _ => rfl) fun v u _ hk => h2 v u fp hk⟩

theorem stepS_C {P : Program} {hf : Fr} {nm nc : Nat} {o : SO} {L : List SO} {sl : List SV} {rs : List (Nat × Res)} {tr : List En} {C : List SV → List (Nat × Res) → Prop} {C' : List SV → List (Nat × Res) → En → Prop} {t : Tok C} {t' : Tok C'}
    (h : stepS P hf nm nc o sl rs C t) (hC : ∀ sl' rs' e, C sl' rs' → C' sl' rs' e) : stepC P hf nm nc false o L sl rs tr C' t' := by
  unfold stepS at h
  unfold stepC
  split
  · rename_i f args hop
    rw [hop] at h
    exact ⟨rfl, CallC.imp h (fun _ _ => rfl) fun v u fp hk => hC _ _ _ hk⟩
  · rename_i hop
    split at h
    · rename_i f args hop2; exact absurd hop2 (hop f args)
    · split at h
      · rename_i r hr
        exact ⟨h.1, rfl, hC _ _ _ h.2⟩
      · exact h.elim

theorem Fs_Fc {P : Program} {hf : Fr} {nm nc : Nat} : ∀ {L : List SO} {sl : List SV} {rs : List (Nat × Res)} {tr : List En} {K : List SV → List (Nat × Res) → Prop} {t : Tok K}, Fs P hf nm nc L sl rs K t → Fc P hf nm nc false L sl rs tr K t
  | [], sl, rs, tr, K, _, h => h
  | o :: L, sl, rs, tr, K, t, h => by
    cases hg : o.guard with
    | none =>
      simp only [Fs, hg] at h
      simp only [Fc, hg]
      exact stepS_C h fun _ _ _ hk => Fs_Fc hk
    | some p =>
      obtain ⟨g, w⟩ := p
      simp only [Fs, hg] at h
      simp only [Fc, hg]
      split at h
      · rename_i b hb
        exact ⟨fun e => stepS_C (h.1 e) fun _ _ _ hk => Fs_Fc hk, fun e => ⟨rfl, Fs_Fc (h.2 e)⟩⟩
      · exact ⟨rfl, Fs_Fc h⟩
      · exact h.elim

def fsOf (sl : List SV) (rs : List (Nat × Res)) : FSt := ⟨fun i => sl.getD i .any, lk rs⟩

theorem evF_ev (sl : List SV) : evF (fun i => sl.getD i .any) = ev sl := by
  funext x; cases x <;> rfl

theorem fs_put {sl : List SV} {rs u : List (Nat × Res)} {o : SO} {v : SV} (hd : ∀ d, o.dst = some d → d < sl.length) : fsOf (setS sl o.dst v) (setRs rs u) = (dl o v u).app (fsOf sl rs) := by
  unfold fsOf Delta.app dl
  simp only [FSt.mk.injEq, lk_setRs, and_true]
  funext i
  cases h : o.dst with
  | none => rfl
  | some d =>
    have := hd d h
    simp only [setS, Option.map_some, putF, up]
    split
    · rename_i e; subst e
      simp [this]
    · rename_i e
      simp [List.getElem?_set_ne (Ne.symm e)]

theorem setS_length (sl : List SV) (d : Option Nat) (v : SV) : (setS sl d v).length = sl.length := by cases d <;> simp [setS]

theorem set_same {sl : List SV} {g : Nat} {v : SV} (h : sl.getD g .any = v) (hv : v ≠ .any) : sl.set g v = sl := by
  by_cases hlt : g < sl.length
  · rw [List.getD_eq_getElem?_getD, List.getElem?_eq_getElem hlt] at h
    simp at h
    rw [← h]
    simp
  · rw [List.getD_eq_getElem?_getD, List.getElem?_eq_none (by omega)] at h
    exact absurd h.symm hv

section
variable {P : Program} {hf : Fr} {nm nc : Nat} {dr : Bool}

theorem stepC_Ff {o : SO} {L : List SO} {sl : List SV} {rs : List (Nat × Res)} {tr : List En} {C : List SV → List (Nat × Res) → En → Prop} {t : Tok C} {K : FSt → Prop} (hg : guardOk o (fun i => sl.getD i .any) true)
    (hd : ∀ d, o.dst = some d → d < sl.length) (h : stepC P hf nm nc dr o L sl rs tr C t)
    (hC : ∀ sl' rs' e, sl'.length = sl.length → C sl' rs' e → Ff P hf nm nc dr L (fsOf sl' rs') (e :: tr) K) : Ff P hf nm nc dr (o :: L) (fsOf sl rs) tr K := by
  unfold stepC at h
  split at h
  · rename_i f args hop
    obtain ⟨h1, fp, h2, h3⟩ := h
    refine .inr ⟨hg, fun hdr o' ho' => ?_, f, args, fp, hop, fun hdr => okB_iff h2 hdr, ?_⟩
    · simp only [hdr, Bool.not_true, Bool.false_or, List.all_eq_true] at h1
      simpa using h1 o' ho'
    · have e1 : evF (fsOf sl rs).slot = ev sl := evF_ev sl
      rw [e1]
      refine h3.mono (fun _ _ => rfl) (fun v upd _ hk => ?_)
      rw [← fs_put hd]
      exact hC _ _ _ (setS_length _ _ _) hk
  · split at h
    · rename_i r hr
      obtain ⟨h1, h2, h3⟩ := h
      have e1 : evF (fsOf sl rs).slot = ev sl := evF_ev sl
      refine .inl ⟨dl o r.val r.upd, opEn o (need (ev sl) o.op) r, .inr ⟨hg, r, ?_, h1, rfl, by rw [e1]⟩, fun hdr => okB_iff h2 hdr, ?_⟩
      · rw [e1]; exact hr
      · rw [← fs_put hd]
        exact hC _ _ _ (setS_length _ _ _) h3
    · exact h.elim

theorem Fc_Ff : ∀ {L : List SO} {sl : List SV} {rs : List (Nat × Res)} {tr : List En} {K : List SV → List (Nat × Res) → Prop} {t : Tok K}, (∀ o ∈ L, ∀ d, o.dst = some d → d < sl.length) →
    Fc P hf nm nc dr L sl rs tr K t → Ff P hf nm nc dr L (fsOf sl rs) tr fun φ => ∃ sl' rs', φ = fsOf sl' rs' ∧ sl'.length = sl.length ∧ K sl' rs'
  | [], sl, rs, tr, K, _, _, h => ⟨sl, rs, rfl, rfl, h⟩
  | o :: L, sl, rs, tr, K, t, hd, h => by
    have recn : ∀ (sl0 : List SV), sl0.length = sl.length → ∀ sl' rs' e, sl'.length = sl0.length → Fc P hf nm nc dr L sl' rs' (e :: tr) K t →
        Ff P hf nm nc dr L (fsOf sl' rs') (e :: tr) fun φ => ∃ sl' rs', φ = fsOf sl' rs' ∧ sl'.length = sl.length ∧ K sl' rs' := by
      intro sl0 h0 sl' rs' e hl hF
      have := Fc_Ff (L := L) (fun o' ho' d hd' => by rw [hl, h0]; exact hd o' (by simp [ho']) d hd') hF
      rw [hl, h0] at this
      exact this
    unfold Fc at h
    split at h
    · rename_i hg
      exact stepC_Ff (by unfold guardOk; rw [hg]) (hd o (by simp)) h (recn sl rfl)
    · rename_i g w hg
      split at h
      · rename_i b hb
        obtain ⟨h1, h2⟩ := h
        by_cases hbw : b = w
        · have h1 := h1 (by simp [hbw])
          have hs : sl.set g (.cv (.val (.bool w))) = sl := set_same (by rw [hb, hbw]) (by simp)
          rw [hs] at h1
          refine stepC_Ff ?_ (hd o (by simp)) h1 (recn sl rfl)
          unfold guardOk; rw [hg]
          exact .inl ⟨b, hb, by rw [hbw]; simp⟩
        · have hbn : b = !w := by cases b <;> cases w <;> simp_all
          obtain ⟨h3, h4⟩ := h2 (by rw [hbn]; cases w <;> rfl)
          have hs : sl.set g (.cv (.val (.bool (!w)))) = sl := set_same (by rw [hb, hbn]) (by simp)
          rw [hs] at h4
          refine .inl ⟨dl o (.tup []) [], skipEn o, .inl ⟨?_, rfl, rfl⟩, fun hdr => okB_iff h3 hdr, ?_⟩
          · unfold guardOk; rw [hg]
            exact .inl ⟨b, hb, by rw [hbn]; cases w <;> rfl⟩
          · rw [← fs_put (hd o (by simp))]
            exact recn sl rfl _ _ _ (setS_length _ _ _) h4
      · rename_i hb
        obtain ⟨h3, h4⟩ := h
        refine .inl ⟨dl o (.tup []) [], skipEn o, .inl ⟨?_, rfl, rfl⟩, fun hdr => okB_iff h3 hdr, ?_⟩
        · unfold guardOk; rw [hg]
          exact .inr ⟨hb, rfl⟩
        · rw [← fs_put (hd o (by simp))]
          exact recn sl rfl _ _ _ (setS_length _ _ _) h4
      · exact h.elim

end
end Sx

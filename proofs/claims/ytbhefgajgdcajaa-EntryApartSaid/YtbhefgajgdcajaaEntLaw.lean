/- What the document's reader takes was written so; the two readers take the same. -/
import Derived.Test.YtbhefgajgdcajaaEntPure
set_option linter.unusedVariables false
set_option linter.unusedSimpArgs false
namespace Go.Proofs.Ytbhefgajgdcajaa
open Sx
set_option maxRecDepth 100000
theorem byts_r {a b : List Int} (h : byts (a ++ b)) : byts b := fun x hx => h x (List.mem_append_right _ hx)
theorem byts_l {a b : List Int} (h : byts (a ++ b)) : byts a := fun x hx => h x (List.mem_append_left _ hx)
theorem byts_app {a b : List Int} (h : byts a) (h' : byts b) : byts (a ++ b) := fun x hx => (List.mem_append.1 hx).elim (h x) (h' x)
theorem byts_take {a : List Int} (h : byts a) (n : Nat) : byts (a.take n) := fun x hx => h x (List.mem_of_mem_take hx)
theorem byts_drop {a : List Int} (h : byts a) (n : Nat) : byts (a.drop n) := fun x hx => h x (List.mem_of_mem_drop hx)
theorem byts_nil : byts [] := fun _ h => by cases h
theorem byts_zeros (n : Nat) : byts (zeros n) := fun x hx => by
  rw [List.eq_of_mem_replicate hx]; decide

/-- What is read, if there was no fault, was written so. -/
def Sound {α : Type} (r : Rdr α) (w : α → List Int) (P : α → Prop) : Prop :=
  ∀ s, (r s).2.2 = false → s.2 = false ∧ (byts s.1 → s.1 = w (r s).1 ++ (r s).2.1 ∧ P (r s).1)
theorem qTake_sound (n : Nat) (s : St2) (h : (qTake n s).2.2 = false) : s.2 = false ∧ (s.1 = (qTake n s).1 ++ (qTake n s).2.1 ∧ (qTake n s).1.length = n) := by
  unfold qTake at h ⊢
  by_cases hc : s.2 = true ∨ s.1.length < n
  · rw [if_pos hc] at h; cases h
  · rw [if_neg hc] at h ⊢
    refine ⟨by cases e : s.2 <;> simp_all, (List.take_append_drop _ _).symm, ?_⟩
    rw [List.length_take]; omega
theorem qNum_sound {n : Nat} (hn : n ≤ 3) : Sound (qNum n) (numL n) (fit n) := fun s h => by
  obtain ⟨h1, h2, h3⟩ := qTake_sound n s h
  refine ⟨h1, fun hb => ?_⟩
  rw [h2] at hb
  have h4 := fit_val (byts_l hb) (by omega)
  rw [h3] at h4
  unfold qNum
  exact ⟨by dsimp only; rw [h4.2]; exact h2, h4.1⟩
theorem rdR_sound (s : St2) (h : (rdR qNum s).2.2 = false) : s.2 = false ∧ (byts s.1 → s.1 = numL 1 (rdR qNum s).1.1 ++ (numL 1 (rdR qNum s).1.2 ++ (rdR qNum s).2.1) ∧ fit 1 (rdR qNum s).1.1 ∧ fit 1 (rdR qNum s).1.2) := by
  unfold rdR at h ⊢
  obtain ⟨b2, f2⟩ := qNum_sound (by omega) _ h
  obtain ⟨b1, f1⟩ := qNum_sound (by omega) _ b2
  refine ⟨b1, fun hb => ?_⟩
  obtain ⟨e1, p1⟩ := f1 hb
  obtain ⟨e2, p2⟩ := f2 (byts_r (e1 ▸ hb))
  exact ⟨by rw [← e2]; exact e1, p1, p2⟩
theorem rdM_sound : Sound (rdM qNum) wrM fitM := fun s h => by
  unfold rdM at h ⊢
  obtain ⟨b2, f2⟩ := rdR_sound _ h
  obtain ⟨b1, f1⟩ := rdR_sound _ b2
  refine ⟨b1, fun hb => ?_⟩
  obtain ⟨e1, p1⟩ := f1 hb
  obtain ⟨e2, p2⟩ := f2 (byts_r (byts_r (e1 ▸ hb)))
  refine ⟨?_, p1, p2⟩
  unfold wrM
  simp only [List.append_assoc]
  rw [← e2]
  exact e1
theorem rdD_sound : Sound (rdD qNum) wrD fitD := fun s h => by
  unfold rdD at h ⊢
  obtain ⟨b2, f2⟩ := qNum_sound (by omega) _ h
  obtain ⟨b1, f1⟩ := qNum_sound (by omega) _ b2
  refine ⟨b1, fun hb => ?_⟩
  obtain ⟨e1, p1⟩ := f1 hb
  obtain ⟨e2, p2⟩ := f2 (byts_r (e1 ▸ hb))
  refine ⟨?_, p1, p2⟩
  unfold wrD
  simp only [List.append_assoc]
  rw [← e2]
  exact e1
theorem reads_sound {α : Type} {r : Rdr α} {w : α → List Int} {P : α → Prop} (hr : Sound r w P) : ∀ (n : Nat) (s : St2), (reads r n s).2.2 = false →
    s.2 = false ∧ (byts s.1 → s.1 = (reads r n s).1.flatMap w ++ (reads r n s).2.1 ∧ (reads r n s).1.length = n ∧ ∀ x ∈ (reads r n s).1, P x)
  | 0, s, h => ⟨h, fun _ => ⟨rfl, rfl, fun x hx => by cases hx⟩⟩
  | n + 1, s, h => by
    unfold reads at h ⊢
    by_cases hs : s.2 = true
    · rw [if_pos hs] at h; rw [hs] at h; cases h
    · rw [if_neg hs] at h ⊢
      obtain ⟨b2, f2⟩ := reads_sound hr n _ h
      obtain ⟨b1, f1⟩ := hr _ b2
      refine ⟨b1, fun hb => ?_⟩
      obtain ⟨e1, p1⟩ := f1 hb
      obtain ⟨e2, p2, p3⟩ := f2 (byts_r (e1 ▸ hb))
      refine ⟨?_, by rw [List.length_cons, p2], fun x hx => ?_⟩
      · rw [List.flatMap_cons, List.append_assoc, ← e2]; exact e1
      · rcases List.mem_cons.1 hx with rfl | hx
        · exact p1
        · exact p3 x hx
theorem qMany_sound (s : St2) (h : (qMany s).2.2 = false) : s.2 = false ∧ (byts s.1 → s.1 = numL 1 ((qMany s).1.toNat : Int) ++ (qMany s).2.1 ∧ (qMany s).1.toNat ≤ 40) := by
  unfold qMany at h ⊢
  by_cases hc : (qNum 1 s).1 > 40 ∨ (qNum 1 s).2.2 = true
  · rw [if_pos hc] at h; cases h
  · rw [if_neg hc] at h ⊢
    obtain ⟨b1, f1⟩ := qNum_sound (by omega) _ h
    refine ⟨b1, fun hb => ?_⟩
    obtain ⟨e1, p1⟩ := f1 hb
    have h0 := p1.1
    rw [Int.toNat_of_nonneg h0]
    exact ⟨e1, by omega⟩
theorem qList_sound {α : Type} {r : Rdr α} {w : α → List Int} {P : α → Prop} (hr : Sound r w P) : Sound (qList r) (wrS w) (each P) := fun s h => by
  unfold qList at h ⊢
  obtain ⟨b2, f2⟩ := reads_sound hr _ _ h
  obtain ⟨b1, f1⟩ := qMany_sound _ b2
  refine ⟨b1, fun hb => ?_⟩
  obtain ⟨e1, p1⟩ := f1 hb
  obtain ⟨e2, p2, p3⟩ := f2 (byts_r (e1 ▸ hb))
  refine ⟨?_, by rw [p2]; exact p1, p3⟩
  unfold wrS
  rw [List.append_assoc, p2, ← e2]
  exact e1
theorem qCell_sound : Sound qCell wrI img := fun s h => by
  unfold qCell at h ⊢
  dsimp only at h ⊢
  obtain ⟨N, hN⟩ : ∃ N, qNum 1 s = N := ⟨_, rfl⟩
  have hq := qNum_sound (n := 1) (by omega) s
  rw [hN] at h hq ⊢
  by_cases hc : N.1 = 0 ∨ (N.2.2 || (N.1 != 0 && N.1 != 26)) = true
  · rw [if_pos hc] at h ⊢
    dsimp only at h
    rw [h] at hc
    have h0 : N.1 = 0 := hc.resolve_right (by decide)
    have hb : N.2.2 = false := by cases e : N.2.2 <;> simp_all
    obtain ⟨b1, f1⟩ := hq hb
    refine ⟨b1, fun hb => ?_⟩
    obtain ⟨e1, _⟩ := f1 hb
    refine ⟨?_, .inl rfl⟩
    rw [h0] at e1
    exact e1
  · rw [if_neg hc] at h ⊢
    have h0 : N.1 ≠ 0 := fun h => hc (.inl h)
    have hbad : (N.2.2 || (N.1 != 0 && N.1 != 26)) = false := by
      cases e : (N.2.2 || (N.1 != 0 && N.1 != 26)) with
      | false => rfl
      | true => exact absurd (.inr e) hc
    have hb : N.2.2 = false := by cases e : N.2.2 <;> simp_all
    have h26 : N.1 = 26 := by
      rw [hb, Bool.false_or, Bool.and_eq_false_iff] at hbad
      rcases hbad with hb | hb
      · exact absurd (by simpa using hb) h0
      · simpa using hb
    obtain ⟨b2, e2, l2⟩ := qTake_sound _ _ h
    obtain ⟨b1, f1⟩ := hq hb
    refine ⟨b1, fun hb => ?_⟩
    obtain ⟨e1, _⟩ := f1 hb
    rw [h26] at l2 e1 e2 ⊢
    refine ⟨?_, .inr l2⟩
    unfold wrI
    rw [List.append_assoc, l2, ← e2]
    exact e1
theorem qdL_sound : Sound qdL wrL fitL := fun s h => by
  unfold qdL at h ⊢
  dsimp only at h ⊢
  rw [Bool.or_eq_false_iff] at h
  obtain ⟨b4, f4⟩ := qNum_sound (by omega) _ h.1
  obtain ⟨b3, f3⟩ := qNum_sound (by omega) _ b4
  obtain ⟨b2, f2⟩ := qNum_sound (by omega) _ b3
  obtain ⟨b1, f1⟩ := qNum_sound (by omega) _ b2
  refine ⟨b1, fun hb => ?_⟩
  obtain ⟨e1, p1⟩ := f1 hb
  have k1 := byts_r (e1 ▸ hb)
  obtain ⟨e2, p2⟩ := f2 k1
  have k2 := byts_r (e2 ▸ k1)
  obtain ⟨e3, p3⟩ := f3 k2
  have k3 := byts_r (e3 ▸ k2)
  obtain ⟨e4, p4⟩ := f4 k3
  refine ⟨?_, p1, p2, p3⟩
  have hd : boolI ((qNum 1 (qNum 3 (qNum 3 (qNum 1 s).2).2).2).1 == 1) = (qNum 1 (qNum 3 (qNum 3 (qNum 1 s).2).2).2).1 := by
    have h1 := h.2
    have h2 := p4.1
    simp only [decide_eq_false_iff_not] at h1
    generalize (qNum 1 (qNum 3 (qNum 3 (qNum 1 s).2).2).2).1 = x at *
    have : x = 0 ∨ x = 1 := by omega
    rcases this with rfl | rfl <;> rfl
  unfold wrL
  dsimp only
  rw [hd]
  simp only [List.append_assoc]
  rw [← e4, ← e3, ← e2]
  exact e1
theorem qdO_sound : Sound qdO wrO fitO := fun s h => by
  unfold qdO at h ⊢
  dsimp only at h ⊢
  obtain ⟨b3, f3⟩ := qList_sound rdM_sound _ h
  obtain ⟨b2, f2⟩ := qNum_sound (by omega) _ b3
  obtain ⟨b1, f1⟩ := qNum_sound (by omega) _ b2
  refine ⟨b1, fun hb => ?_⟩
  obtain ⟨e1, p1⟩ := f1 hb
  have k1 := byts_r (e1 ▸ hb)
  obtain ⟨e2, p2⟩ := f2 k1
  have k2 := byts_r (e2 ▸ k1)
  obtain ⟨e3, p3⟩ := f3 k2
  refine ⟨?_, p1, p2, p3⟩
  unfold wrO
  dsimp only
  simp only [List.append_assoc]
  rw [← e3, ← e2]
  exact e1
theorem qdE_sound (s : St2) (h : (qdE s).2.2 = false) (hb : byts s.1) : s.1 = wrE (qdE s).1 ++ (qdE s).2.1 := by
  unfold qdE at h ⊢
  dsimp only at h ⊢
  obtain ⟨b14, f14⟩ := qList_sound qdO_sound _ h
  obtain ⟨b13, f13⟩ := qList_sound rdD_sound _ b14
  obtain ⟨b12, f12⟩ := qList_sound qdL_sound _ b13
  obtain ⟨b11, f11⟩ := qList_sound rdM_sound _ b12
  obtain ⟨b10, f10⟩ := qCell_sound _ b11
  obtain ⟨b9, f9⟩ := qCell_sound _ b10
  obtain ⟨b8, f8⟩ := rdR_sound _ b9
  obtain ⟨b7, f7⟩ := rdR_sound _ b8
  obtain ⟨b6, f6⟩ := qNum_sound (by omega) _ b7
  obtain ⟨b5, f5⟩ := qNum_sound (by omega) _ b6
  obtain ⟨b4, f4⟩ := qNum_sound (by omega) _ b5
  obtain ⟨b3, f3⟩ := qNum_sound (by omega) _ b4
  obtain ⟨b2, f2⟩ := qNum_sound (by omega) _ b3
  obtain ⟨b1, f1⟩ := qNum_sound (by omega) _ b2
  have e1 := (f1 hb).1
  have k1 := byts_r (e1 ▸ hb)
  have e2 := (f2 k1).1
  have k2 := byts_r (e2 ▸ k1)
  have e3 := (f3 k2).1
  have k3 := byts_r (e3 ▸ k2)
  have e4 := (f4 k3).1
  have k4 := byts_r (e4 ▸ k3)
  have e5 := (f5 k4).1
  have k5 := byts_r (e5 ▸ k4)
  have e6 := (f6 k5).1
  have k6 := byts_r (e6 ▸ k5)
  have e7 := (f7 k6).1
  have k7 := byts_r (byts_r (e7 ▸ k6))
  have e8 := (f8 k7).1
  have k8 := byts_r (byts_r (e8 ▸ k7))
  have e9 := (f9 k8).1
  have k9 := byts_r (e9 ▸ k8)
  have e10 := (f10 k9).1
  have k10 := byts_r (e10 ▸ k9)
  have e11 := (f11 k10).1
  have k11 := byts_r (e11 ▸ k10)
  have e12 := (f12 k11).1
  have k12 := byts_r (e12 ▸ k11)
  have e13 := (f13 k12).1
  have k13 := byts_r (e13 ▸ k12)
  have e14 := (f14 k13).1
  unfold wrE
  dsimp only
  simp only [List.append_assoc]
  rw [← e14, ← e13, ← e12, ← e11, ← e10, ← e9, ← e8, ← e7, ← e6, ← e5, ← e4, ← e3, ← e2]
  exact e1

theorem wrE_len (e : Ent) : 21 ≤ (wrE e).length := by
  unfold wrE wrI wrS
  simp only [List.length_append, numL_len]
  omega
theorem wrE_ne (e : Ent) : wrE e ≠ [] := fun h => by have := wrE_len e; rw [h] at this; simp at this
theorem rdE_put {e : Ent} (he : May e) (t : List Int) : rdE (wrE e ++ t, false) = (e, (t, false)) := rdE_app e he t
theorem putE_may {e : Ent} (he : May e) : putE e = wrE e := if_pos he
theorem putE_not {e : Ent} (he : ¬ May e) : putE e = [] := if_neg he
theorem may_put {e : Ent} {b : List Int} (h : putE e = b) (hb : b ≠ []) : May e ∧ wrE e = b := by
  by_cases he : May e
  · exact ⟨he, by rw [← putE_may he, h]⟩
  · rw [putE_not he] at h; exact absurd h.symm hb
theorem takeE_put {e : Ent} (he : May e) : takeE (wrE e) = (e, 0) := by
  have h := rdE_put he []
  rw [List.append_nil] at h
  unfold takeE
  rw [h]
  dsimp only
  rw [putE_may he, if_neg]
  rintro (h | h | h)
  · cases h
  · exact h rfl
  · exact wrE_ne e h
theorem takeE_cases (b : List Int) : (takeE b = (zeroE, 4) ∧ ¬ ∃ e, May e ∧ b = wrE e) ∨ ∃ e, May e ∧ b = wrE e ∧ takeE b = (e, 0) := by
  by_cases h : ∃ e, May e ∧ b = wrE e
  · obtain ⟨e, he, rfl⟩ := h
    exact .inr ⟨e, he, rfl, takeE_put he⟩
  · refine .inl ⟨?_, h⟩
    unfold takeE
    rw [if_pos]
    by_cases hb : b = []
    · exact .inr (.inr hb)
    · refine .inr (.inl fun hp => h ?_)
      obtain ⟨k1, k2⟩ := may_put hp hb
      exact ⟨_, k1, k2.symm⟩
theorem takeQ_put {e : Ent} (he : May e) : takeQ (wrE e) = (e, 0) := by
  have h := qdE_app e he []
  rw [List.append_nil] at h
  unfold takeQ
  rw [h]
  dsimp only
  rw [if_neg]
  rintro (h | h | h)
  · cases h
  · exact h rfl
  · exact h he
/-- The two readers take the same. -/
theorem take_eq {b : List Int} (hb : byts b) : takeE b = takeQ b := by
  rcases takeE_cases b with ⟨h1, h2⟩ | ⟨e, he, rfl, h1⟩
  · rw [h1]
    unfold takeQ
    rw [if_pos]
    cases hs : (qdE (b, false)).2.2 with
    | true => exact .inl rfl
    | false =>
      by_cases hr : (qdE (b, false)).2.1 = []
      · refine .inr (.inr fun hm => h2 ⟨_, hm, ?_⟩)
        have := qdE_sound (b, false) hs hb
        rw [hr, List.append_nil] at this
        exact this
      · exact .inr (.inl hr)
  · rw [h1, takeQ_put he]
/-- What is cut off is none; nor is what is longer. -/
theorem takeE_form {e : Ent} (he : May e) {b t : List Int} (h : wrE e = b ++ t) (ht : t ≠ []) : takeE b = (zeroE, 4) := by
  rcases takeE_cases b with ⟨h1, _⟩ | ⟨f, hf, rfl, _⟩
  · exact h1
  · have h1 := rdE_put he []
    rw [List.append_nil, h, rdE_put hf] at h1
    simp only [Prod.mk.injEq] at h1
    exact absurd h1.2.1 ht
theorem takeE_more {e : Ent} (he : May e) {t : List Int} (ht : t ≠ []) : takeE (wrE e ++ t) = (zeroE, 4) := by
  rcases takeE_cases (wrE e ++ t) with ⟨h1, _⟩ | ⟨f, hf, h, _⟩
  · exact h1
  · have h1 := rdE_put hf []
    rw [List.append_nil, ← h, rdE_put he] at h1
    simp only [Prod.mk.injEq] at h1
    exact absurd h1.2.1 ht
theorem wrE_inj {e f : Ent} (he : May e) (hf : May f) : wrE e = wrE f ↔ e = f := ⟨fun h => by
  have h1 := rdE_put he []
  rw [h, rdE_put hf] at h1
  exact (Prod.mk.inj h1).1.symm, fun h => by rw [h]⟩
end Go.Proofs.Ytbhefgajgdcajaa

/- Cells in plain words: the bytes of rows and stubs, and what bytes say. -/
import Derived.Test.YtnddgbionjlnbaaSxBytes
set_option linter.unusedVariables false
set_option linter.unusedSimpArgs false
namespace Sx
abbrev emB : ByteArray := .mk #[]
/-- May a row be? -/
def MayR (k s v : ByteArray) : Prop := 1 ≤ k.size ∧ k.size ≤ 8 ∧ s.size ≤ 6 ∧ v.size ≤ 8
instance (k s v : ByteArray) : Decidable (MayR k s v) := by unfold MayR; infer_instance
/-- A text at a place of so much room. -/
def padf (s : ByteArray) (j : Nat) : Int := if j < s.size then sbyte s j else 0
/-- A row's bytes. -/
def rowf (k s v : ByteArray) (j : Nat) : Int :=
  if j = 0 then 1 else if j = 1 then k.size else if j < 10 then padf k (j - 2) else if j = 10 then s.size else if j < 17 then padf s (j - 11) else if j = 17 then v.size else padf v (j - 18)
/-- A stub's bytes. -/
def stubf (p c : Int) (j : Nat) : Int := if j = 0 then 2 else if j = 1 then p else if j = 2 then c else 0
def MayS (p c : Int) : Prop := 0 ≤ p ∧ p < 32 ∧ 0 ≤ c ∧ c < 4
instance (p c : Int) : Decidable (MayS p c) := by unfold MayS; infer_instance
theorem padf_byt (s : ByteArray) (j : Nat) : 0 ≤ padf s j ∧ padf s j ≤ 255 := by
  unfold padf
  split
  · exact sbyte_byte s j
  · omega
theorem rowf_byt {k s v : ByteArray} (h : MayR k s v) : Byt (rowf k s v) := fun j => by
  obtain ⟨h1, h2, h3, h4⟩ := h
  have := padf_byt k (j - 2)
  have := padf_byt s (j - 11)
  have := padf_byt v (j - 18)
  unfold rowf
  (repeat' split) <;> omega
theorem stubf_byt {p c : Int} (h : MayS p c) : Byt (stubf p c) := fun j => by
  obtain ⟨h1, h2, h3, h4⟩ := h
  unfold stubf
  (repeat' split) <;> omega

/-- What a cell says. -/
structure Rd where
  kind : Int
  k : ByteArray
  s : ByteArray
  v : ByteArray
  p : Int
  c : Int
  e : Int
abbrev Rd.V (r : Rd) : SV := .tup [.cv (.val (.int .i64 r.kind)), .agg [.val (.string r.k), .val (.string r.s), .val (.string r.v)], .agg [.val (.int .i64 r.p), .val (.int .i64 r.c)], .cv (.val (.int .i64 r.e))]
abbrev rdNone : Rd := ⟨0, emB, emB, emB, 0, 0, 0⟩
abbrev rdForm : Rd := ⟨0, emB, emB, emB, 0, 0, 4⟩
def allZ (n : Nat) (f : Nat → Int) : Prop := ∀ j, j < n → f j = 0
def keyF (f : Nat → Int) : ByteArray := bst (min (f 1) 8).toNat (fun j => f (2 + j))
def secF (f : Nat → Int) : ByteArray := bst (min (f 10) 6).toNat (fun j => f (11 + j))
def valF (f : Nat → Int) : ByteArray := bst (min (f 17) 8).toNat (fun j => f (18 + j))
def isRow (f : Nat → Int) : Prop := 0 < (keyF f).size ∧ ∀ j, j < 26 → f j = rowf (keyF f) (secF f) (valF f) j
def isStub (f : Nat → Int) : Prop := MayS (f 1) (f 2) ∧ ∀ j, j < 26 → f j = stubf (f 1) (f 2) j
open Classical in
noncomputable def rdF (n : Nat) (f : Nat → Int) : Rd :=
  if n = 0 ∨ (n = 26 ∧ allZ 26 f) then rdNone else if n ≠ 26 then rdForm else if isRow f then ⟨1, keyF f, secF f, valF f, 0, 0, 0⟩ else if isStub f then ⟨2, emB, emB, emB, f 1, f 2, 0⟩ else rdForm

theorem emB_size : emB.size = 0 := rfl
theorem keyF_size (f : Nat → Int) : (keyF f).size = (min (f 1) 8).toNat := bstr_size _ _
theorem secF_size (f : Nat → Int) : (secF f).size = (min (f 10) 6).toNat := bstr_size _ _
theorem valF_size (f : Nat → Int) : (valF f).size = (min (f 17) 8).toNat := bstr_size _ _
theorem parts_may {f : Nat → Int} (h : 0 < (keyF f).size) : MayR (keyF f) (secF f) (valF f) := by
  have h1 := keyF_size f
  have h2 := secF_size f
  have h3 := valF_size f
  exact ⟨h, by omega, by omega, by omega⟩
theorem parts_not {f : Nat → Int} (h : ¬ 0 < (keyF f).size) : ¬ MayR (keyF f) (secF f) (valF f) := fun ⟨h1, _⟩ => h h1
/-- A row's bytes say the row. -/
theorem rowf_parts {k s v : ByteArray} (h : MayR k s v) : keyF (rowf k s v) = k ∧ secF (rowf k s v) = s ∧ valF (rowf k s v) = v := by
  obtain ⟨h1, h2, h3, h4⟩ := h
  have e1 : rowf k s v 1 = k.size := rfl
  have e2 : rowf k s v 10 = s.size := rfl
  have e3 : rowf k s v 17 = v.size := rfl
  refine ⟨?_, ?_, ?_⟩
  · unfold keyF
    rw [e1, show (min (k.size : Int) 8).toNat = k.size by omega]
    refine (bstr_congr fun j hj => ?_).trans (bst_sbyte k)
    simp only [byf]
    have : rowf k s v (2 + j) = sbyte k j := by
      unfold rowf
      rw [if_neg (by omega), if_neg (by omega), if_pos (by omega), show 2 + j - 2 = j by omega, padf, if_pos hj]
    rw [this]
  · unfold secF
    rw [e2, show (min (s.size : Int) 6).toNat = s.size by omega]
    refine (bstr_congr fun j hj => ?_).trans (bst_sbyte s)
    simp only [byf]
    have : rowf k s v (11 + j) = sbyte s j := by
      unfold rowf
      rw [if_neg (by omega), if_neg (by omega), if_neg (by omega), if_neg (by omega), if_pos (by omega), show 11 + j - 11 = j by omega, padf, if_pos hj]
    rw [this]
  · unfold valF
    rw [e3, show (min (v.size : Int) 8).toNat = v.size by omega]
    refine (bstr_congr fun j hj => ?_).trans (bst_sbyte v)
    simp only [byf]
    have : rowf k s v (18 + j) = sbyte v j := by
      unfold rowf
      rw [if_neg (by omega), if_neg (by omega), if_neg (by omega), if_neg (by omega), if_neg (by omega), if_neg (by omega), show 18 + j - 18 = j by omega, padf, if_pos hj]
    rw [this]
/-- What is said hangs on the bytes alone. -/
theorem isRow_congr {f g : Nat → Int} (h : ∀ j, j < 26 → f j = g j) : (keyF f = keyF g ∧ secF f = secF g ∧ valF f = valF g) ∧ (isRow f ↔ isRow g) := by
  have e1 : keyF f = keyF g := by
    unfold keyF
    rw [h 1 (by omega)]
    exact bstr_congr fun j hj => by simp only [byf]; rw [h (2 + j) (by omega)]
  have e2 : secF f = secF g := by
    unfold secF
    rw [h 10 (by omega)]
    exact bstr_congr fun j hj => by simp only [byf]; rw [h (11 + j) (by omega)]
  have e3 : valF f = valF g := by
    unfold valF
    rw [h 17 (by omega)]
    exact bstr_congr fun j hj => by simp only [byf]; rw [h (18 + j) (by omega)]
  refine ⟨⟨e1, e2, e3⟩, ?_⟩
  unfold isRow
  rw [e1, e2, e3]
  exact and_congr Iff.rfl (forall_congr' fun j => imp_congr_right fun hj => by rw [h j hj])
theorem isStub_congr {f g : Nat → Int} (h : ∀ j, j < 26 → f j = g j) : isStub f ↔ isStub g := by
  unfold isStub
  rw [h 1 (by omega), h 2 (by omega)]
  exact and_congr Iff.rfl (forall_congr' fun j => imp_congr_right fun hj => by rw [h j hj])
theorem allZ_congr {n : Nat} {f g : Nat → Int} (h : ∀ j, j < n → f j = g j) : allZ n f ↔ allZ n g := forall_congr' fun j => imp_congr_right fun hj => by rw [h j hj]
theorem rdF_congr {n : Nat} {f g : Nat → Int} (h : ∀ j, j < n → f j = g j) : rdF n f = rdF n g := by
  unfold rdF
  by_cases hn : n = 26
  · subst hn
    obtain ⟨⟨e1, e2, e3⟩, e4⟩ := isRow_congr h
    rw [e1, e2, e3, propext e4, propext (isStub_congr h), propext (allZ_congr h), h 1 (by omega), h 2 (by omega)]
  · simp only [hn, false_and, or_false, ne_eq, not_false_eq_true, if_true]
theorem isRow_rowf {k s v : ByteArray} (h : MayR k s v) : isRow (rowf k s v) := by
  obtain ⟨e1, e2, e3⟩ := rowf_parts h
  unfold isRow
  rw [e1, e2, e3]
  exact ⟨h.1, fun _ _ => rfl⟩
theorem rdF_row {k s v : ByteArray} (h : MayR k s v) : rdF 26 (rowf k s v) = ⟨1, k, s, v, 0, 0, 0⟩ := by
  obtain ⟨e1, e2, e3⟩ := rowf_parts h
  have hz : ¬ (26 = 0 ∨ (26 = 26 ∧ allZ 26 (rowf k s v))) := fun hh => by
    rcases hh with hh | ⟨_, hh⟩
    · omega
    · have := hh 0 (by omega)
      simp [rowf] at this
  unfold rdF
  rw [if_neg hz, if_neg (by omega), if_pos (isRow_rowf h), e1, e2, e3]
theorem rdF_stub {p c : Int} (h : MayS p c) : rdF 26 (stubf p c) = ⟨2, emB, emB, emB, p, c, 0⟩ := by
  have hz : ¬ (26 = 0 ∨ (26 = 26 ∧ allZ 26 (stubf p c))) := fun hh => by
    rcases hh with hh | ⟨_, hh⟩
    · omega
    · have := hh 0 (by omega)
      simp [stubf] at this
  have hr : ¬ isRow (stubf p c) := fun hh => by
    have := hh.2 0 (by omega)
    simp [rowf, stubf] at this
  have hs : isStub (stubf p c) := ⟨h, fun _ _ => rfl⟩
  unfold rdF
  rw [if_neg hz, if_neg (by omega), if_neg hr, if_pos hs]
  rfl
/-- Three kinds there are. -/
theorem rdF_cases (n : Nat) (f : Nat → Int) : (rdF n f = rdNone ∧ (n = 0 ∨ (n = 26 ∧ allZ 26 f))) ∨ (rdF n f = rdForm ∧ n ≠ 0 ∧ ¬ (n = 26 ∧ (allZ 26 f ∨ isRow f ∨ isStub f))) ∨
    (n = 26 ∧ isRow f ∧ rdF n f = ⟨1, keyF f, secF f, valF f, 0, 0, 0⟩) ∨ (n = 26 ∧ ¬ isRow f ∧ isStub f ∧ rdF n f = ⟨2, emB, emB, emB, f 1, f 2, 0⟩) := by
  unfold rdF
  by_cases h1 : n = 0 ∨ (n = 26 ∧ allZ 26 f)
  · exact .inl ⟨if_pos h1, h1⟩
  rw [if_neg h1]
  by_cases h2 : n ≠ 26
  · exact .inr (.inl ⟨if_pos h2, fun h => h1 (.inl h), fun h => h2 h.1⟩)
  rw [if_neg h2]
  have h2 : n = 26 := by omega
  by_cases h3 : isRow f
  · exact .inr (.inr (.inl ⟨h2, h3, if_pos h3⟩))
  rw [if_neg h3]
  by_cases h4 : isStub f
  · exact .inr (.inr (.inr ⟨h2, h3, h4, if_pos h4⟩))
  rw [if_neg h4]
  exact .inr (.inl ⟨rfl, fun h => h1 (.inl h), fun h => by
    rcases h.2 with h | h | h
    · exact h1 (.inr ⟨h2, h⟩)
    · exact h3 h
    · exact h4 h⟩)
/-- A text as the document reads it. -/
def tok (f : Nat → Int) (n : Nat) : Prop := f 0 ≤ (n : Int) ∧ ∀ i : Nat, f 0 + 1 ≤ (i : Int) → i ≤ n → f i = 0
theorem tok_pad {f : Nat → Int} (hb : Byt f) {n : Nat} (h : tok f n) : ∀ j, j < n → f (1 + j) = padf (bst (f 0).toNat fun j => f (1 + j)) j := fun j hj => by
  have h0 := hb 0
  unfold padf
  rw [bstr_size]
  by_cases hk : j < (f 0).toNat
  · rw [if_pos hk, sbyte_bst (f := fun j => f (1 + j)) hk (hb _)]
  · rw [if_neg hk]
    exact h.2 (1 + j) (by omega) (by omega)
theorem pad_tok {f : Nat → Int} (hb : Byt f) {n : Nat} {s : ByteArray} (h0 : f 0 = (s.size : Int)) (hs : s.size ≤ n) (h : ∀ j, j < n → f (1 + j) = padf s j) : tok f n := by
  refine ⟨by omega, fun i hi hin => ?_⟩
  have := h (i - 1) (by omega)
  rw [show 1 + (i - 1) = i by omega] at this
  rw [this, padf, if_neg (by omega)]
/-- The document's row is the program's. -/
theorem isRow_iff {f : Nat → Int} (hb : Byt f) : isRow f ↔ (f 0 = 1 ∧ tok (fun j => f (1 + j)) 8 ∧ tok (fun j => f (10 + j)) 6 ∧ tok (fun j => f (17 + j)) 8 ∧ 0 < f 1) := by
  have z1 := keyF_size f
  have z2 := secF_size f
  have z3 := valF_size f
  have b1 := hb 1
  have b2 := hb 10
  have b3 := hb 17
  constructor
  · rintro ⟨h1, h2⟩
    have q0 := h2 0 (by omega)
    have q1 := h2 1 (by omega)
    have q2 := h2 10 (by omega)
    have q3 := h2 17 (by omega)
    simp [rowf] at q0 q1 q2 q3
    refine ⟨q0, ?_, ?_, ?_, by omega⟩
    · refine pad_tok (s := keyF f) (fun j => hb _) q1 (by omega) fun j hj => ?_
      have := h2 (1 + (1 + j)) (by omega)
      rw [this]; unfold rowf
      rw [if_neg (by omega), if_neg (by omega), if_pos (by omega), show 1 + (1 + j) - 2 = j by omega]
    · refine pad_tok (s := secF f) (fun j => hb _) q2 (by omega) fun j hj => ?_
      have := h2 (10 + (1 + j)) (by omega)
      rw [this]; unfold rowf
      rw [if_neg (by omega), if_neg (by omega), if_neg (by omega), if_neg (by omega), if_pos (by omega), show 10 + (1 + j) - 11 = j by omega]
    · refine pad_tok (s := valF f) (fun j => hb _) q3 (by omega) fun j hj => ?_
      have := h2 (17 + (1 + j)) (by omega)
      rw [this]; unfold rowf
      rw [if_neg (by omega), if_neg (by omega), if_neg (by omega), if_neg (by omega), if_neg (by omega), if_neg (by omega), show 17 + (1 + j) - 18 = j by omega]
  · rintro ⟨h0, h1, h2, h3, h4⟩
    have t1 := tok_pad (fun j => hb _) h1
    have t2 := tok_pad (fun j => hb _) h2
    have t3 := tok_pad (fun j => hb _) h3
    have k1 : f 1 ≤ 8 := h1.1
    have k2 : f 10 ≤ 6 := h2.1
    have k3 : f 17 ≤ 8 := h3.1
    have e1 : keyF f = bst (f 1).toNat fun j => f (1 + (1 + j)) := by
      unfold keyF
      rw [show min (f 1) 8 = f 1 by omega]
      exact bstr_congr fun j _ => by simp only [byf]; rw [show 2 + j = 1 + (1 + j) by omega]
    have e2 : secF f = bst (f 10).toNat fun j => f (10 + (1 + j)) := by
      unfold secF
      rw [show min (f 10) 6 = f 10 by omega]
      exact bstr_congr fun j _ => by simp only [byf]; rw [show 11 + j = 10 + (1 + j) by omega]
    have e3 : valF f = bst (f 17).toNat fun j => f (17 + (1 + j)) := by
      unfold valF
      rw [show min (f 17) 8 = f 17 by omega]
      exact bstr_congr fun j _ => by simp only [byf]; rw [show 18 + j = 17 + (1 + j) by omega]
    refine ⟨by omega, fun j hj => ?_⟩
    unfold rowf
    by_cases j0 : j = 0
    · subst j0; rw [if_pos rfl]; exact h0
    rw [if_neg j0]
    by_cases j1 : j = 1
    · subst j1; rw [if_pos rfl, z1]; omega
    rw [if_neg j1]
    by_cases j2 : j < 10
    · rw [if_pos j2, e1]
      have := t1 (j - 2) (by omega)
      simp only [Nat.add_zero, show 1 + (1 + (j - 2)) = j by omega] at this
      exact this
    rw [if_neg j2]
    by_cases j3 : j = 10
    · subst j3; rw [if_pos rfl, z2]; omega
    rw [if_neg j3]
    by_cases j4 : j < 17
    · rw [if_pos j4, e2]
      have := t2 (j - 11) (by omega)
      simp only [Nat.add_zero, show 10 + (1 + (j - 11)) = j by omega] at this
      exact this
    rw [if_neg j4]
    by_cases j5 : j = 17
    · subst j5; rw [if_pos rfl, z3]; omega
    rw [if_neg j5, e3]
    have := t3 (j - 18) (by omega)
    simp only [Nat.add_zero, show 17 + (1 + (j - 18)) = j by omega] at this
    exact this
end Sx

import Derived.Test.YtbhefgajgdcajaaSxBytes
import Derived.Test.YtbhefgajgdcajaaCode
set_option linter.unusedVariables false
set_option linter.unusedSimpArgs false
/- Entries' bytes in plain words: numbers are written and read; two readers. -/
namespace Go.Proofs.Ytbhefgajgdcajaa
open Sx
set_option maxRecDepth 100000

abbrev Mv := Int × Int × Int × Int
abbrev Lv := Int × Int × Int × Bool
abbrev Dt := Int × Int
abbrev Op := Int × Int × List Mv
/-- An entry: kind, transaction, unit, half, previous, next, where (two), whither (two), what was, what is, moves, lives, dirty pages, open units. -/
structure Ent where
  k : Int
  t : Int
  u : Int
  h : Int
  p : Int
  n : Int
  a : Int
  b : Int
  c : Int
  d : Int
  o : List Int
  w : List Int
  m : List Mv
  l : List Lv
  y : List Dt
  q : List Op
def zeroE : Ent := ⟨0, 0, 0, 0, 0, 0, 0, 0, 0, 0, [], [], [], [], [], []⟩

/-- A number of n bytes. -/
def fit (n : Nat) (v : Int) : Prop := 0 ≤ v ∧ v < 256 ^ n
instance (n : Nat) (v : Int) : Decidable (fit n v) := inferInstanceAs (Decidable (_ ∧ _))
def fitM (x : Mv) : Prop := (fit 1 x.1 ∧ fit 1 x.2.1) ∧ fit 1 x.2.2.1 ∧ fit 1 x.2.2.2
instance (x : Mv) : Decidable (fitM x) := inferInstanceAs (Decidable (_ ∧ _))
def each {α : Type} (P : α → Prop) (l : List α) : Prop := l.length ≤ 40 ∧ ∀ x ∈ l, P x
instance {α : Type} (P : α → Prop) [DecidablePred P] (l : List α) : Decidable (each P l) := inferInstanceAs (Decidable (_ ∧ _))
def fitL (x : Lv) : Prop := fit 1 x.1 ∧ fit 3 x.2.1 ∧ fit 3 x.2.2.1
instance (x : Lv) : Decidable (fitL x) := inferInstanceAs (Decidable (_ ∧ _))
def fitD (x : Dt) : Prop := fit 1 x.1 ∧ fit 3 x.2
instance (x : Dt) : Decidable (fitD x) := inferInstanceAs (Decidable (_ ∧ _))
def fitO (x : Op) : Prop := fit 2 x.1 ∧ fit 1 x.2.1 ∧ each fitM x.2.2
instance : DecidablePred fitM := fun _ => inferInstance
instance : DecidablePred fitL := fun _ => inferInstance
instance : DecidablePred fitD := fun _ => inferInstance
instance (x : Op) : Decidable (fitO x) := inferInstanceAs (Decidable (_ ∧ _))
instance : DecidablePred fitO := fun _ => inferInstance
def img (l : List Int) : Prop := l.length = 0 ∨ l.length = 26
instance (l : List Int) : Decidable (img l) := inferInstanceAs (Decidable (_ ∨ _))
/-- Which entries may be. -/
structure May (e : Ent) : Prop where
  k : 1 ≤ e.k ∧ e.k ≤ 10
  t : fit 1 e.t
  h : fit 1 e.h
  u : fit 2 e.u
  p : fit 3 e.p
  n : fit 3 e.n
  a : fit 1 e.a
  b : fit 1 e.b
  c : fit 1 e.c
  d : fit 1 e.d
  o : img e.o
  w : img e.w
  m : each fitM e.m
  l : each fitL e.l
  y : each fitD e.y
  q : each fitO e.q

def numL : Nat → Int → List Int
  | 0, _ => []
  | n + 1, v => v / 256 ^ n % 256 :: numL n v
def wrM (x : Mv) : List Int := numL 1 x.1 ++ (numL 1 x.2.1 ++ (numL 1 x.2.2.1 ++ numL 1 x.2.2.2))
def wrI (l : List Int) : List Int := numL 1 l.length ++ l
def wrS {α : Type} (w : α → List Int) (l : List α) : List Int := numL 1 l.length ++ l.flatMap w
def boolI (b : Bool) : Int := if b then 1 else 0
def wrL (x : Lv) : List Int := numL 1 x.1 ++ (numL 3 x.2.1 ++ (numL 3 x.2.2.1 ++ numL 1 (boolI x.2.2.2)))
def wrD (x : Dt) : List Int := numL 1 x.1 ++ numL 3 x.2
def wrO (x : Op) : List Int := numL 2 x.1 ++ (numL 1 x.2.1 ++ wrS wrM x.2.2)
theorem May.k' {e : Ent} (h : May e) : fit 1 e.k := ⟨by have := h.k; omega, by have := h.k; rw [Int.pow_one]; omega⟩
/-- An entry's bytes. -/
def wrE (e : Ent) : List Int :=
  numL 1 e.k ++ (numL 1 e.t ++ (numL 2 e.u ++ (numL 1 e.h ++ (numL 3 e.p ++ (numL 3 e.n ++ (numL 1 e.a ++ (numL 1 e.b ++ (numL 1 e.c ++ (numL 1 e.d ++
  (wrI e.o ++ (wrI e.w ++ (wrS wrM e.m ++ (wrS wrL e.l ++ (wrS wrD e.y ++ wrS wrO e.q))))))))))))))
open Classical in
noncomputable def putE (e : Ent) : List Int := if May e then wrE e else []

theorem numL_len (n : Nat) (v : Int) : (numL n v).length = n := by
  induction n with
  | zero => rfl
  | succ n ih => simp [numL, ih]
def valL (l : List Int) : Int := l.foldl (fun v x => v * 256 + x) 0
def byts (l : List Int) : Prop := ∀ x ∈ l, 0 ≤ x ∧ x ≤ 255
theorem numL_byts (n : Nat) (v : Int) : byts (numL n v) := by
  induction n with
  | zero => intro x hx; cases hx
  | succ n ih =>
    intro x hx
    rcases List.mem_cons.1 hx with rfl | hx
    · omega
    · exact ih x hx
theorem foldl_num (n : Nat) : ∀ (v c : Int), 0 ≤ v → (numL n v).foldl (fun v x => v * 256 + x) c = c * 256 ^ n + v % 256 ^ n := by
  induction n with
  | zero => intro v c h; simp [numL]
  | succ n ih =>
    intro v c h
    rw [numL, List.foldl_cons, ih v _ h, Int.pow_succ]
    have h0 : (0 : Int) < 256 ^ n := Int.pow_pos (by decide)
    generalize (256 : Int) ^ n = B at *
    have e1 : v % (B * 256) = v % B + B * (v / B % 256) := by
      have a1 := Int.emod_nonneg v (Int.ne_of_gt h0)
      have a2 := Int.emod_lt_of_pos v h0
      have a3 : 0 ≤ v / B % 256 := by omega
      have a4 : v / B % 256 ≤ 255 := by omega
      have a5 : B * (v / B % 256) ≤ B * 255 := Int.mul_le_mul_of_nonneg_left a4 (Int.le_of_lt h0)
      have a6 : 0 ≤ B * (v / B % 256) := Int.mul_nonneg (Int.le_of_lt h0) a3
      have a7 : v = (v % B + B * (v / B % 256)) + B * 256 * (v / B / 256) := by
        have b1 := Int.emod_add_mul_ediv v B
        have b2 := Int.emod_add_mul_ediv (v / B) 256
        generalize v / B = q at *
        rw [Int.mul_assoc, Int.add_assoc, ← Int.mul_add, b2, b1]
      rw [show v % (B * 256) = ((v % B + B * (v / B % 256)) + B * 256 * (v / B / 256)) % (B * 256) from by rw [← a7], Int.add_mul_emod_self_left]
      exact Int.emod_eq_of_lt (by omega) (by omega)
    rw [e1, Int.add_mul, Int.mul_assoc, Int.mul_comm 256 B, Int.mul_comm (v / B % 256) B]
    omega
theorem valL_num {n : Nat} {v : Int} (h : fit n v) : valL (numL n v) = v := by
  unfold valL
  rw [foldl_num n v 0 h.1, Int.zero_mul, Int.zero_add]
  exact Int.emod_eq_of_lt h.1 h.2

theorem fit_val {l : List Int} (h : byts l) (hl : l.length ≤ 3) : fit l.length (valL l) ∧ numL l.length (valL l) = l := by
  match l, hl with
  | [], _ => exact ⟨⟨by decide, by decide⟩, rfl⟩
  | [a], _ =>
    have ha := h a (by simp)
    simp only [valL, List.foldl_cons, List.foldl_nil, List.length_cons, List.length_nil, numL, fit, Nat.zero_add, Int.pow_zero, List.cons.injEq, and_true]
    omega
  | [a, b], _ =>
    have ha := h a (by simp)
    have hb := h b (by simp)
    simp only [valL, List.foldl_cons, List.foldl_nil, List.length_cons, List.length_nil, numL, fit, Nat.zero_add, Nat.reduceAdd, Int.reducePow, Int.pow_zero, List.cons.injEq, and_true]
    omega
  | [a, b, c], _ =>
    have ha := h a (by simp)
    have hb := h b (by simp)
    have hc := h c (by simp)
    simp only [valL, List.foldl_cons, List.foldl_nil, List.length_cons, List.length_nil, numL, fit, Nat.zero_add, Nat.reduceAdd, Int.reducePow, Int.pow_zero, List.cons.injEq, and_true]
    omega
  | _ :: _ :: _ :: _ :: _, h => simp at h

/-! Readers: what is left, and whether there was too little. -/
abbrev St2 := List Int × Bool
abbrev Rdr (α : Type) := St2 → α × St2
def zeros (n : Nat) : List Int := List.replicate n 0
/-- The program's. -/
def rTake (n : Nat) : Rdr (List Int) := fun s => if s.1.length < n then (zeros n, ([], true)) else (s.1.take n, (s.1.drop n, s.2))
def rNum (n : Nat) : Rdr Int := fun s => (valL (rTake n s).1, (rTake n s).2)
/-- The document's. -/
def qTake (n : Nat) : Rdr (List Int) := fun s => if s.2 = true ∨ s.1.length < n then (zeros n, (s.1, true)) else (s.1.take n, (s.1.drop n, false))
def qNum (n : Nat) : Rdr Int := fun s => (valL (qTake n s).1, (qTake n s).2)

section
variable (num : Nat → Rdr Int)
def rdR : Rdr (Int × Int) := fun s => ((( num 1 s).1, (num 1 (num 1 s).2).1), (num 1 (num 1 s).2).2)
def rdM : Rdr Mv := fun s => (((rdR num s).1.1, (rdR num s).1.2, (rdR num (rdR num s).2).1.1, (rdR num (rdR num s).2).1.2), (rdR num (rdR num s).2).2)
def rdD : Rdr Dt := fun s => (((num 1 s).1, (num 3 (num 1 s).2).1), (num 3 (num 1 s).2).2)
end
/-- n times, as long as there is enough. -/
def reads {α : Type} (r : Rdr α) : Nat → Rdr (List α)
  | 0, s => ([], s)
  | n + 1, s => if s.2 = true then ([], s) else ((r s).1 :: (reads r n (r s).2).1, (reads r n (r s).2).2)
def rList {α : Type} (r : Rdr α) : Rdr (List α) := fun s => reads r (rNum 1 s).1.toNat (rNum 1 s).2
def rImg : Rdr (List Int) := fun s => rTake (rNum 1 s).1.toNat (rNum 1 s).2
def rdL : Rdr Lv := fun s =>
  let a := rNum 1 s
  let b := rNum 3 a.2
  let c := rNum 3 b.2
  let d := rNum 1 c.2
  ((a.1, b.1, c.1, d.1 == 1), d.2)
def rdO : Rdr Op := fun s =>
  let a := rNum 2 s
  let b := rNum 1 a.2
  let c := rList (rdM rNum) b.2
  ((a.1, b.1, c.1), c.2)
def rdE : Rdr Ent := fun s =>
  let k := rNum 1 s
  let t := rNum 1 k.2
  let u := rNum 2 t.2
  let h := rNum 1 u.2
  let p := rNum 3 h.2
  let n := rNum 3 p.2
  let a := rdR rNum n.2
  let c := rdR rNum a.2
  let o := rImg c.2
  let w := rImg o.2
  let m := rList (rdM rNum) w.2
  let l := rList rdL m.2
  let y := rList (rdD rNum) l.2
  let q := rList rdO y.2
  (⟨k.1, t.1, u.1, h.1, p.1, n.1, a.1.1, a.1.2, c.1.1, c.1.2, o.1, w.1, m.1, l.1, y.1, q.1⟩, q.2)
/-- The document's. -/
def qCell : Rdr (List Int) := fun s =>
  let n := qNum 1 s
  let bad := n.2.2 || (n.1 != 0 && n.1 != 26)
  if n.1 = 0 ∨ bad = true then ([], (n.2.1, bad)) else qTake n.1.toNat (n.2.1, bad)
def qMany : Rdr Int := fun s => if (qNum 1 s).1 > 40 ∨ (qNum 1 s).2.2 = true then (0, ((qNum 1 s).2.1, true)) else qNum 1 s
def qList {α : Type} (r : Rdr α) : Rdr (List α) := fun s => reads r (qMany s).1.toNat (qMany s).2
def qdL : Rdr Lv := fun s =>
  let a := qNum 1 s
  let b := qNum 3 a.2
  let c := qNum 3 b.2
  let d := qNum 1 c.2
  ((a.1, b.1, c.1, d.1 == 1), (d.2.1, d.2.2 || decide (d.1 > 1)))
def qdO : Rdr Op := fun s =>
  let a := qNum 2 s
  let b := qNum 1 a.2
  let c := qList (rdM qNum) b.2
  ((a.1, b.1, c.1), c.2)
def qdE : Rdr Ent := fun s =>
  let k := qNum 1 s
  let t := qNum 1 k.2
  let u := qNum 2 t.2
  let h := qNum 1 u.2
  let p := qNum 3 h.2
  let n := qNum 3 p.2
  let a := rdR qNum n.2
  let c := rdR qNum a.2
  let o := qCell c.2
  let w := qCell o.2
  let m := qList (rdM qNum) w.2
  let l := qList qdL m.2
  let y := qList (rdD qNum) l.2
  let q := qList qdO y.2
  (⟨k.1, t.1, u.1, h.1, p.1, n.1, a.1.1, a.1.2, c.1.1, c.1.2, o.1, w.1, m.1, l.1, y.1, q.1⟩, q.2)
open Classical in
/-- What Take answers. -/
noncomputable def takeE (b : List Int) : Ent × Int := if (rdE (b, false)).2.2 = true ∨ putE (rdE (b, false)).1 ≠ b ∨ b = [] then (zeroE, 4) else ((rdE (b, false)).1, 0)
open Classical in
noncomputable def takeQ (b : List Int) : Ent × Int := if (qdE (b, false)).2.2 = true ∨ (qdE (b, false)).2.1 ≠ [] ∨ ¬ May (qdE (b, false)).1 then (zeroE, 4) else ((qdE (b, false)).1, 0)

/-- What was written is read. -/
def Reads {α : Type} (r : Rdr α) (w : α → List Int) (P : α → Prop) : Prop := ∀ x, P x → ∀ t, r (w x ++ t, false) = (x, (t, false))
theorem rTake_app (l t : List Int) : rTake l.length (l ++ t, false) = (l, (t, false)) := by
  unfold rTake
  rw [if_neg (by simp), List.take_left, List.drop_left]
theorem qTake_app (l t : List Int) : qTake l.length (l ++ t, false) = (l, (t, false)) := by
  unfold qTake
  rw [if_neg (by simp), List.take_left, List.drop_left]
theorem rNum_app (n : Nat) : Reads (rNum n) (numL n) (fit n) := fun v hv t => by
  have := rTake_app (numL n v) t
  rw [numL_len] at this
  unfold rNum
  rw [this]
  simp only [valL_num hv]
theorem qNum_app (n : Nat) : Reads (qNum n) (numL n) (fit n) := fun v hv t => by
  have := qTake_app (numL n v) t
  rw [numL_len] at this
  unfold qNum
  rw [this]
  simp only [valL_num hv]
theorem rdR_app {num : Nat → Rdr Int} (hn : ∀ n, Reads (num n) (numL n) (fit n)) {a b : Int} (ha : fit 1 a) (hb : fit 1 b) (t : List Int) : rdR num (numL 1 a ++ (numL 1 b ++ t), false) = ((a, b), (t, false)) := by
  unfold rdR
  simp only [hn 1 a ha, hn 1 b hb]
theorem rdM_app {num : Nat → Rdr Int} (hn : ∀ n, Reads (num n) (numL n) (fit n)) : Reads (rdM num) wrM fitM := fun x hx t => by
  obtain ⟨⟨h1, h2⟩, h3, h4⟩ := hx
  unfold rdM wrM
  simp only [List.append_assoc, rdR_app hn h1 h2, rdR_app hn h3 h4]
theorem rdD_app {num : Nat → Rdr Int} (hn : ∀ n, Reads (num n) (numL n) (fit n)) : Reads (rdD num) wrD fitD := fun x hx t => by
  unfold rdD wrD
  simp only [List.append_assoc, hn 1 _ hx.1, hn 3 _ hx.2]
theorem reads_app {α : Type} {r : Rdr α} {w : α → List Int} {P : α → Prop} (h : Reads r w P) : ∀ (l : List α), (∀ x ∈ l, P x) → ∀ t, reads r l.length (l.flatMap w ++ t, false) = (l, (t, false))
  | [], _, t => rfl
  | x :: l, hl, t => by
    have h1 := h x (hl x (List.mem_cons_self ..)) (l.flatMap w ++ t)
    have h2 := reads_app h l (fun y hy => hl y (List.mem_cons_of_mem _ hy)) t
    rw [List.flatMap_cons, List.append_assoc, List.length_cons]
    unfold reads
    rw [if_neg (by simp), h1, h2]
theorem fit_len {n : Nat} (h : n ≤ 40) : fit 1 (n : Int) := ⟨by omega, by rw [Int.pow_one]; omega⟩
theorem rList_app {α : Type} {r : Rdr α} {w : α → List Int} {P : α → Prop} (h : Reads r w P) : Reads (rList r) (wrS w) (each P) := fun l hl t => by
  unfold rList wrS
  rw [List.append_assoc, rNum_app 1 _ (fit_len hl.1)]
  exact reads_app h l hl.2 t
theorem qMany_app {n : Nat} (h : n ≤ 40) (t : List Int) : qMany (numL 1 (n : Int) ++ t, false) = ((n : Int), (t, false)) := by
  unfold qMany
  rw [qNum_app 1 _ (fit_len h), if_neg (by simp; omega)]
theorem qList_app {α : Type} {r : Rdr α} {w : α → List Int} {P : α → Prop} (h : Reads r w P) : Reads (qList r) (wrS w) (each P) := fun l hl t => by
  unfold qList wrS
  rw [List.append_assoc, qMany_app hl.1]
  exact reads_app h l hl.2 t
theorem fit_img {l : List Int} (h : img l) : fit 1 (l.length : Int) := fit_len (by rcases h with h | h <;> omega)
theorem rImg_app : Reads rImg wrI img := fun l hl t => by
  unfold rImg wrI
  rw [List.append_assoc, rNum_app 1 _ (fit_img hl)]
  exact rTake_app l t
theorem qCell_app : Reads qCell wrI img := fun l hl t => by
  unfold qCell wrI
  simp only [List.append_assoc, qNum_app 1 _ (fit_img hl), Bool.false_or]
  rcases hl with h | h
  · obtain rfl := List.length_eq_zero_iff.1 h
    rfl
  · have := qTake_app l t
    rw [h] at this ⊢
    rw [if_neg (by decide)]
    exact this
theorem fit_bool (b : Bool) : fit 1 (boolI b) := by cases b <;> exact ⟨by decide, by decide⟩
theorem boolI_eq (b : Bool) : (boolI b == 1) = b := by cases b <;> rfl
theorem rdL_app : Reads rdL wrL fitL := fun x hx t => by
  obtain ⟨h1, h2, h3⟩ := hx
  unfold rdL wrL
  simp only [List.append_assoc, rNum_app 1 _ h1, rNum_app 3 _ h2, rNum_app 3 _ h3, rNum_app 1 _ (fit_bool _), boolI_eq]
theorem qdL_app : Reads qdL wrL fitL := fun x hx t => by
  obtain ⟨h1, h2, h3⟩ := hx
  have hb : decide (boolI x.2.2.2 > 1) = false := by cases x.2.2.2 <;> rfl
  unfold qdL wrL
  simp only [List.append_assoc, qNum_app 1 _ h1, qNum_app 3 _ h2, qNum_app 3 _ h3, qNum_app 1 _ (fit_bool _), boolI_eq, hb, Bool.or_self]
theorem rdO_app : Reads rdO wrO fitO := fun x hx t => by
  obtain ⟨h1, h2, h3⟩ := hx
  unfold rdO wrO
  simp only [List.append_assoc, rNum_app 2 _ h1, rNum_app 1 _ h2, rList_app (rdM_app rNum_app) _ h3]
theorem qdO_app : Reads qdO wrO fitO := fun x hx t => by
  obtain ⟨h1, h2, h3⟩ := hx
  unfold qdO wrO
  simp only [List.append_assoc, qNum_app 2 _ h1, qNum_app 1 _ h2, qList_app (rdM_app qNum_app) _ h3]
theorem rdE_app : Reads rdE wrE May := fun e he t => by
  unfold rdE wrE
  simp only [List.append_assoc, rNum_app 1 _ he.k', rNum_app 1 _ he.t, rNum_app 2 _ he.u, rNum_app 1 _ he.h, rNum_app 3 _ he.p, rNum_app 3 _ he.n, rdR_app rNum_app he.a he.b, rdR_app rNum_app he.c he.d,
    rImg_app _ he.o, rImg_app _ he.w, rList_app (rdM_app rNum_app) _ he.m, rList_app rdL_app _ he.l, rList_app (rdD_app rNum_app) _ he.y, rList_app rdO_app _ he.q]
theorem qdE_app : Reads qdE wrE May := fun e he t => by
  unfold qdE wrE
  simp only [List.append_assoc, qNum_app 1 _ he.k', qNum_app 1 _ he.t, qNum_app 2 _ he.u, qNum_app 1 _ he.h, qNum_app 3 _ he.p, qNum_app 3 _ he.n, rdR_app qNum_app he.a he.b, rdR_app qNum_app he.c he.d,
    qCell_app _ he.o, qCell_app _ he.w, qList_app (rdM_app qNum_app) _ he.m, qList_app qdL_app _ he.l, qList_app (rdD_app qNum_app) _ he.y, qList_app qdO_app _ he.q]
end Go.Proofs.Ytbhefgajgdcajaa

/- What the document's reader takes was written so; the two readers take the same. -/
namespace Go.Proofs.Ytbhefgajgdcajaa
open Sx
set_option maxRecDepth 100000
theorem byts_r {a b : List Int} (h : byts (a ++ b)) : byts b := fun x hx => h x (List.mem_append_right _ hx)
theorem byts_l {a b : List Int} (h : byts (a ++ b)) : byts a := fun x hx => h x (List.mem_append_left _ hx)
theorem byts_app {a b : List Int} (h : byts a) (h' : byts b) : byts (a ++ b) := fun x hx => (List.mem_append.1 hx).elim (h x) (h' x)
theorem byts_take {a : List Int} (h : byts a) (n : Nat) : byts (a.take n) := fun x hx => h x (List.mem_of_mem_take hx)
theorem byts_drop {a : List Int} (h : byts a) (n : Nat) : byts (a.drop n) := fun x hx => h x (List.mem_of_mem_drop hx)
theorem byts_nil : byts [] := fun _ h => by cases h
theorem byts_zeros (n : Nat) : byts (zeros n) := fun x hx => by
  rw [List.eq_of_mem_replicate hx]; decide

/-- What is read, if there was no fault, was written so. -/
def Sound {α : Type} (r : Rdr α) (w : α → List Int) (P : α → Prop) : Prop :=
  ∀ s, (r s).2.2 = false → s.2 = false ∧ (byts s.1 → s.1 = w (r s).1 ++ (r s).2.1 ∧ P (r s).1)
theorem qTake_sound (n : Nat) (s : St2) (h : (qTake n s).2.2 = false) : s.2 = false ∧ (s.1 = (qTake n s).1 ++ (qTake n s).2.1 ∧ (qTake n s).1.length = n) := by
  unfold qTake at h ⊢
  by_cases hc : s.2 = true ∨ s.1.length < n
  · rw [if_pos hc] at h; cases h
  · rw [if_neg hc] at h ⊢
    refine ⟨by cases e : s.2 <;> simp_all, (List.take_append_drop _ _).symm, ?_⟩
    rw [List.length_take]; omega
theorem qNum_sound {n : Nat} (hn : n ≤ 3) : Sound (qNum n) (numL n) (fit n) := fun s h => by
  obtain ⟨h1, h2, h3⟩ := qTake_sound n s h
  refine ⟨h1, fun hb => ?_⟩
  rw [h2] at hb
  have h4 := fit_val (byts_l hb) (by omega)
  rw [h3] at h4
  unfold qNum
  exact ⟨by dsimp only; rw [h4.2]; exact h2, h4.1⟩
theorem rdR_sound (s : St2) (h : (rdR qNum s).2.2 = false) : s.2 = false ∧ (byts s.1 → s.1 = numL 1 (rdR qNum s).1.1 ++ (numL 1 (rdR qNum s).1.2 ++ (rdR qNum s).2.1) ∧ fit 1 (rdR qNum s).1.1 ∧ fit 1 (rdR qNum s).1.2) := by
  unfold rdR at h ⊢
  obtain ⟨b2, f2⟩ := qNum_sound (by omega) _ h
  obtain ⟨b1, f1⟩ := qNum_sound (by omega) _ b2
  refine ⟨b1, fun hb => ?_⟩
  obtain ⟨e1, p1⟩ := f1 hb
  obtain ⟨e2, p2⟩ := f2 (byts_r (e1 ▸ hb))
  exact ⟨by rw [← e2]; exact e1, p1, p2⟩
theorem rdM_sound : Sound (rdM qNum) wrM fitM := fun s h => by
  unfold rdM at h ⊢
  obtain ⟨b2, f2⟩ := rdR_sound _ h
  obtain ⟨b1, f1⟩ := rdR_sound _ b2
  refine ⟨b1, fun hb => ?_⟩
  obtain ⟨e1, p1⟩ := f1 hb
  obtain ⟨e2, p2⟩ := f2 (byts_r (byts_r (e1 ▸ hb)))
  refine ⟨?_, p1, p2⟩
  unfold wrM
  simp only [List.append_assoc]
  rw [← e2]
  exact e1
theorem rdD_sound : Sound (rdD qNum) wrD fitD := fun s h => by
  unfold rdD at h ⊢
  obtain ⟨b2, f2⟩ := qNum_sound (by omega) _ h
  obtain ⟨b1, f1⟩ := qNum_sound (by omega) _ b2
  refine ⟨b1, fun hb => ?_⟩
  obtain ⟨e1, p1⟩ := f1 hb
  obtain ⟨e2, p2⟩ := f2 (byts_r (e1 ▸ hb))
  refine ⟨?_, p1, p2⟩
  unfold wrD
  simp only [List.append_assoc]
  rw [← e2]
  exact e1
theorem reads_sound {α : Type} {r : Rdr α} {w : α → List Int} {P : α → Prop} (hr : Sound r w P) : ∀ (n : Nat) (s : St2), (reads r n s).2.2 = false →
    s.2 = false ∧ (byts s.1 → s.1 = (reads r n s).1.flatMap w ++ (reads r n s).2.1 ∧ (reads r n s).1.length = n ∧ ∀ x ∈ (reads r n s).1, P x)
  | 0, s, h => ⟨h, fun _ => ⟨rfl, rfl, fun x hx => by cases hx⟩⟩
  | n + 1, s, h => by
    unfold reads at h ⊢
    by_cases hs : s.2 = true
    · rw [if_pos hs] at h; rw [hs] at h; cases h
    · rw [if_neg hs] at h ⊢
      obtain ⟨b2, f2⟩ := reads_sound hr n _ h
      obtain ⟨b1, f1⟩ := hr _ b2
      refine ⟨b1, fun hb => ?_⟩
      obtain ⟨e1, p1⟩ := f1 hb
      obtain ⟨e2, p2, p3⟩ := f2 (byts_r (e1 ▸ hb))
      refine ⟨?_, by rw [List.length_cons, p2], fun x hx => ?_⟩
      · rw [List.flatMap_cons, List.append_assoc, ← e2]; exact e1
      · rcases List.mem_cons.1 hx with rfl | hx
        · exact p1
        · exact p3 x hx
theorem qMany_sound (s : St2) (h : (qMany s).2.2 = false) : s.2 = false ∧ (byts s.1 → s.1 = numL 1 ((qMany s).1.toNat : Int) ++ (qMany s).2.1 ∧ (qMany s).1.toNat ≤ 40) := by
  unfold qMany at h ⊢
  by_cases hc : (qNum 1 s).1 > 40 ∨ (qNum 1 s).2.2 = true
  · rw [if_pos hc] at h; cases h
  · rw [if_neg hc] at h ⊢
    obtain ⟨b1, f1⟩ := qNum_sound (by omega) _ h
    refine ⟨b1, fun hb => ?_⟩
    obtain ⟨e1, p1⟩ := f1 hb
    have h0 := p1.1
    rw [Int.toNat_of_nonneg h0]
    exact ⟨e1, by omega⟩
theorem qList_sound {α : Type} {r : Rdr α} {w : α → List Int} {P : α → Prop} (hr : Sound r w P) : Sound (qList r) (wrS w) (each P) := fun s h => by
  unfold qList at h ⊢
  obtain ⟨b2, f2⟩ := reads_sound hr _ _ h
  obtain ⟨b1, f1⟩ := qMany_sound _ b2
  refine ⟨b1, fun hb => ?_⟩
  obtain ⟨e1, p1⟩ := f1 hb
  obtain ⟨e2, p2, p3⟩ := f2 (byts_r (e1 ▸ hb))
  refine ⟨?_, by rw [p2]; exact p1, p3⟩
  unfold wrS
  rw [List.append_assoc, p2, ← e2]
  exact e1
theorem qCell_sound : Sound qCell wrI img := fun s h => by
  unfold qCell at h ⊢
  dsimp only at h ⊢
  obtain ⟨N, hN⟩ : ∃ N, qNum 1 s = N := ⟨_, rfl⟩
  have hq := qNum_sound (n := 1) (by omega) s
  rw [hN] at h hq ⊢
  by_cases hc : N.1 = 0 ∨ (N.2.2 || (N.1 != 0 && N.1 != 26)) = true
  · rw [if_pos hc] at h ⊢
    dsimp only at h
    rw [h] at hc
    have h0 : N.1 = 0 := hc.resolve_right (by decide)
    have hb : N.2.2 = false := by cases e : N.2.2 <;> simp_all
    obtain ⟨b1, f1⟩ := hq hb
    refine ⟨b1, fun hb => ?_⟩
    obtain ⟨e1, _⟩ := f1 hb
    refine ⟨?_, .inl rfl⟩
    rw [h0] at e1
    exact e1
  · rw [if_neg hc] at h ⊢
    have h0 : N.1 ≠ 0 := fun h => hc (.inl h)
    have hbad : (N.2.2 || (N.1 != 0 && N.1 != 26)) = false := by
      cases e : (N.2.2 || (N.1 != 0 && N.1 != 26)) with
      | false => rfl
      | true => exact absurd (.inr e) hc
    have hb : N.2.2 = false := by cases e : N.2.2 <;> simp_all
    have h26 : N.1 = 26 := by
      rw [hb, Bool.false_or, Bool.and_eq_false_iff] at hbad
      rcases hbad with hb | hb
      · exact absurd (by simpa using hb) h0
      · simpa using hb
    obtain ⟨b2, e2, l2⟩ := qTake_sound _ _ h
    obtain ⟨b1, f1⟩ := hq hb
    refine ⟨b1, fun hb => ?_⟩
    obtain ⟨e1, _⟩ := f1 hb
    rw [h26] at l2 e1 e2 ⊢
    refine ⟨?_, .inr l2⟩
    unfold wrI
    rw [List.append_assoc, l2, ← e2]
    exact e1
theorem qdL_sound : Sound qdL wrL fitL := fun s h => by
  unfold qdL at h ⊢
  dsimp only at h ⊢
  rw [Bool.or_eq_false_iff] at h
  obtain ⟨b4, f4⟩ := qNum_sound (by omega) _ h.1
  obtain ⟨b3, f3⟩ := qNum_sound (by omega) _ b4
  obtain ⟨b2, f2⟩ := qNum_sound (by omega) _ b3
  obtain ⟨b1, f1⟩ := qNum_sound (by omega) _ b2
  refine ⟨b1, fun hb => ?_⟩
  obtain ⟨e1, p1⟩ := f1 hb
  have k1 := byts_r (e1 ▸ hb)
  obtain ⟨e2, p2⟩ := f2 k1
  have k2 := byts_r (e2 ▸ k1)
  obtain ⟨e3, p3⟩ := f3 k2
  have k3 := byts_r (e3 ▸ k2)
  obtain ⟨e4, p4⟩ := f4 k3
  refine ⟨?_, p1, p2, p3⟩
  have hd : boolI ((qNum 1 (qNum 3 (qNum 3 (qNum 1 s).2).2).2).1 == 1) = (qNum 1 (qNum 3 (qNum 3 (qNum 1 s).2).2).2).1 := by
    have h1 := h.2
    have h2 := p4.1
    simp only [decide_eq_false_iff_not] at h1
    generalize (qNum 1 (qNum 3 (qNum 3 (qNum 1 s).2).2).2).1 = x at *
    have : x = 0 ∨ x = 1 := by omega
    rcases this with rfl | rfl <;> rfl
  unfold wrL
  dsimp only
  rw [hd]
  simp only [List.append_assoc]
  rw [← e4, ← e3, ← e2]
  exact e1
theorem qdO_sound : Sound qdO wrO fitO := fun s h => by
  unfold qdO at h ⊢
  dsimp only at h ⊢
  obtain ⟨b3, f3⟩ := qList_sound rdM_sound _ h
  obtain ⟨b2, f2⟩ := qNum_sound (by omega) _ b3
  obtain ⟨b1, f1⟩ := qNum_sound (by omega) _ b2
  refine ⟨b1, fun hb => ?_⟩
  obtain ⟨e1, p1⟩ := f1 hb
  have k1 := byts_r (e1 ▸ hb)
  obtain ⟨e2, p2⟩ := f2 k1
  have k2 := byts_r (e2 ▸ k1)
  obtain ⟨e3, p3⟩ := f3 k2
  refine ⟨?_, p1, p2, p3⟩
  unfold wrO
  dsimp only
  simp only [List.append_assoc]
  rw [← e3, ← e2]
  exact e1
theorem qdE_sound (s : St2) (h : (qdE s).2.2 = false) (hb : byts s.1) : s.1 = wrE (qdE s).1 ++ (qdE s).2.1 := by
  unfold qdE at h ⊢
  dsimp only at h ⊢
  obtain ⟨b14, f14⟩ := qList_sound qdO_sound _ h
  obtain ⟨b13, f13⟩ := qList_sound rdD_sound _ b14
  obtain ⟨b12, f12⟩ := qList_sound qdL_sound _ b13
  obtain ⟨b11, f11⟩ := qList_sound rdM_sound _ b12
  obtain ⟨b10, f10⟩ := qCell_sound _ b11
  obtain ⟨b9, f9⟩ := qCell_sound _ b10
  obtain ⟨b8, f8⟩ := rdR_sound _ b9
  obtain ⟨b7, f7⟩ := rdR_sound _ b8
  obtain ⟨b6, f6⟩ := qNum_sound (by omega) _ b7
  obtain ⟨b5, f5⟩ := qNum_sound (by omega) _ b6
  obtain ⟨b4, f4⟩ := qNum_sound (by omega) _ b5
  obtain ⟨b3, f3⟩ := qNum_sound (by omega) _ b4
  obtain ⟨b2, f2⟩ := qNum_sound (by omega) _ b3
  obtain ⟨b1, f1⟩ := qNum_sound (by omega) _ b2
  have e1 := (f1 hb).1
  have k1 := byts_r (e1 ▸ hb)
  have e2 := (f2 k1).1
  have k2 := byts_r (e2 ▸ k1)
  have e3 := (f3 k2).1
  have k3 := byts_r (e3 ▸ k2)
  have e4 := (f4 k3).1
  have k4 := byts_r (e4 ▸ k3)
  have e5 := (f5 k4).1
  have k5 := byts_r (e5 ▸ k4)
  have e6 := (f6 k5).1
  have k6 := byts_r (e6 ▸ k5)
  have e7 := (f7 k6).1
  have k7 := byts_r (byts_r (e7 ▸ k6))
  have e8 := (f8 k7).1
  have k8 := byts_r (byts_r (e8 ▸ k7))
  have e9 := (f9 k8).1
  have k9 := byts_r (e9 ▸ k8)
  have e10 := (f10 k9).1
  have k10 := byts_r (e10 ▸ k9)
  have e11 := (f11 k10).1
  have k11 := byts_r (e11 ▸ k10)
  have e12 := (f12 k11).1
  have k12 := byts_r (e12 ▸ k11)
  have e13 := (f13 k12).1
  have k13 := byts_r (e13 ▸ k12)
  have e14 := (f14 k13).1
  unfold wrE
  dsimp only
  simp only [List.append_assoc]
  rw [← e14, ← e13, ← e12, ← e11, ← e10, ← e9, ← e8, ← e7, ← e6, ← e5, ← e4, ← e3, ← e2]
  exact e1

theorem wrE_len (e : Ent) : 21 ≤ (wrE e).length := by
  unfold wrE wrI wrS
  simp only [List.length_append, numL_len]
  omega
theorem wrE_ne (e : Ent) : wrE e ≠ [] := fun h => by have := wrE_len e; rw [h] at this; simp at this
theorem rdE_put {e : Ent} (he : May e) (t : List Int) : rdE (wrE e ++ t, false) = (e, (t, false)) := rdE_app e he t
theorem putE_may {e : Ent} (he : May e) : putE e = wrE e := if_pos he
theorem putE_not {e : Ent} (he : ¬ May e) : putE e = [] := if_neg he
theorem may_put {e : Ent} {b : List Int} (h : putE e = b) (hb : b ≠ []) : May e ∧ wrE e = b := by
  by_cases he : May e
  · exact ⟨he, by rw [← putE_may he, h]⟩
  · rw [putE_not he] at h; exact absurd h.symm hb
theorem takeE_put {e : Ent} (he : May e) : takeE (wrE e) = (e, 0) := by
  have h := rdE_put he []
  rw [List.append_nil] at h
  unfold takeE
  rw [h]
  dsimp only
  rw [putE_may he, if_neg]
  rintro (h | h | h)
  · cases h
  · exact h rfl
  · exact wrE_ne e h
theorem takeE_cases (b : List Int) : (takeE b = (zeroE, 4) ∧ ¬ ∃ e, May e ∧ b = wrE e) ∨ ∃ e, May e ∧ b = wrE e ∧ takeE b = (e, 0) := by
  by_cases h : ∃ e, May e ∧ b = wrE e
  · obtain ⟨e, he, rfl⟩ := h
    exact .inr ⟨e, he, rfl, takeE_put he⟩
  · refine .inl ⟨?_, h⟩
    unfold takeE
    rw [if_pos]
    by_cases hb : b = []
    · exact .inr (.inr hb)
    · refine .inr (.inl fun hp => h ?_)
      obtain ⟨k1, k2⟩ := may_put hp hb
      exact ⟨_, k1, k2.symm⟩
theorem takeQ_put {e : Ent} (he : May e) : takeQ (wrE e) = (e, 0) := by
  have h := qdE_app e he []
  rw [List.append_nil] at h
  unfold takeQ
  rw [h]
  dsimp only
  rw [if_neg]
  rintro (h | h | h)
  · cases h
  · exact h rfl
  · exact h he
/-- The two readers take the same. -/
theorem take_eq {b : List Int} (hb : byts b) : takeE b = takeQ b := by
  rcases takeE_cases b with ⟨h1, h2⟩ | ⟨e, he, rfl, h1⟩
  · rw [h1]
    unfold takeQ
    rw [if_pos]
    cases hs : (qdE (b, false)).2.2 with
    | true => exact .inl rfl
    | false =>
      by_cases hr : (qdE (b, false)).2.1 = []
      · refine .inr (.inr fun hm => h2 ⟨_, hm, ?_⟩)
        have := qdE_sound (b, false) hs hb
        rw [hr, List.append_nil] at this
        exact this
      · exact .inr (.inl hr)
  · rw [h1, takeQ_put he]
/-- What is cut off is none; nor is what is longer. -/
theorem takeE_form {e : Ent} (he : May e) {b t : List Int} (h : wrE e = b ++ t) (ht : t ≠ []) : takeE b = (zeroE, 4) := by
  rcases takeE_cases b with ⟨h1, _⟩ | ⟨f, hf, rfl, _⟩
  · exact h1
  · have h1 := rdE_put he []
    rw [List.append_nil, h, rdE_put hf] at h1
    simp only [Prod.mk.injEq] at h1
    exact absurd h1.2.1 ht
theorem takeE_more {e : Ent} (he : May e) {t : List Int} (ht : t ≠ []) : takeE (wrE e ++ t) = (zeroE, 4) := by
  rcases takeE_cases (wrE e ++ t) with ⟨h1, _⟩ | ⟨f, hf, h, _⟩
  · exact h1
  · have h1 := rdE_put hf []
    rw [List.append_nil, ← h, rdE_put he] at h1
    simp only [Prod.mk.injEq] at h1
    exact absurd h1.2.1 ht
theorem wrE_inj {e f : Ent} (he : May e) (hf : May f) : wrE e = wrE f ↔ e = f := ⟨fun h => by
  have h1 := rdE_put he []
  rw [h, rdE_put hf] at h1
  exact (Prod.mk.inj h1).1.symm, fun h => by rw [h]⟩
end Go.Proofs.Ytbhefgajgdcajaa

/- A name told anew: what was a given name's memory is told under another name. -/
namespace Sx
open Go
set_option maxRecDepth 100000
def nuL (names : List Nat) (i : Nat) : Option Nat := (names.reverse.idxOf? i).map fun k => names.length - 1 - k
theorem nuL_some {names : List Nat} {i j : Nat} (h : nuL names i = some j) : j < names.length ∧ names.getD j 0 = i := by
  unfold nuL at h
  rw [List.idxOf?, Option.map_eq_some_iff] at h
  obtain ⟨k, hk, rfl⟩ := h
  rw [List.findIdx?_eq_some_iff_getElem] at hk
  obtain ⟨hlt, heq, _⟩ := hk
  rw [List.length_reverse] at hlt
  refine ⟨by omega, ?_⟩
  rw [List.getElem_reverse] at heq
  rw [List.getD_eq_getElem?_getD, List.getElem?_eq_getElem (by omega)]
  simpa using heq
/-- Who isn't the last of its name has nothing. -/
def lastB (names : List Nat) (rs : List (Nat × Res)) : Prop := ∀ j, j < names.length → nuL names (names.getD j 0) = some j ∨ lk rs j = .gone
structure WeakAl (kp : Nat) (names : List Nat) (st st' : St) : Prop where
  pre : prefixB kp names = true
  last : lastB names st'.rs
  nx : st'.nx = names.length
  slots : slotsW st.rs (nuL names) names.length (names.length + 0) st'.sl st.sl
  ress : ressW (nuL names) names 0 st.rs st'.rs
theorem Weak.al {hf : Fr} {kp : Nat} {st st' : St} (names : List Nat) (h : WeakAl kp names st st') : Weak hf kp st st' := by
  intro c a w hkp hr
  subst hkp
  obtain ⟨⟨β, hh, hfit, hrel, hnx, hB⟩, hlen, hk, hext, hdef⟩ := hr
  have hpre := h.pre
  simp only [prefixB, Bool.and_eq_true, decide_eq_true_eq, List.all_eq_true, List.mem_range, beq_iff_eq] at hpre
  let β' : Env := ⟨fun j => if j < names.length then β (names.getD j 0) else none, β.mem⟩
  let h' : Nat → Hp := fun j => if j < names.length ∧ nuL names (names.getD j 0) = some j then hh (names.getD j 0) else fun _ => none
  have hvia : Env.via β β' (nuL names) := by
    refine ⟨?_, fun _ _ hb => hb⟩
    intro i j bd hn hb
    obtain ⟨h1, h2⟩ := nuL_some hn
    show (if j < names.length then β (names.getD j 0) else _) = _
    rw [if_pos h1, h2]; exact hb
  have hemp : ∀ j, names.length ≤ j → j < names.length + 0 → β' j = some ⟨none, 0⟩ := fun j h1 h2 => by omega
  refine ⟨⟨β', h', ⟨hfit.size, fun i => slotW_den hvia (frzOk_rel hrel) hemp _ _ _ (slotsW_get i h.slots) (hfit.den i)⟩, ⟨hrel.frame, fun j b o hb => ?_, fun j j' b hjj hb => ?_, fun j b hb => ?_, fun j => ?_, hrel.fzn.old, hrel.fzn.new, hrel.fzn.sub, fun j b hb => ?_⟩, fun i hi => ?_, fun i hi => ?_⟩, by rw [slotsW_length h.slots]; exact hlen, by rw [h.nx]; omega, hext, hdef⟩
  · simp only [h'] at hb
    split at hb
    · exact hrel.sub _ _ _ hb
    · cases hb
  · simp only [h'] at hb ⊢
    split at hb
    · rename_i h1
      split
      · rename_i h2
        refine hrel.disj _ _ b (fun e => hjj ?_) hb
        have e1 := h1.2
        rw [e, h2.2] at e1
        exact (Option.some.inj e1).symm
      · rfl
    · exact absurd rfl hb
  · simp only [h'] at hb
    split at hb
    · exact hrel.apart _ b hb
    · exact absurd rfl hb
  · rcases ressW_get j h.ress with h1 | ⟨h1, h2⟩ | ⟨h1, h2, h3⟩
    · rw [h1]; trivial
    · rcases h.last j h1 with hl | hl
      · refine retell_sat hvia (frzOk_rel hrel) hemp h2 ?_
        have e1 : β' j = β (names.getD j 0) := if_pos h1
        have e2 : h' j = hh (names.getD j 0) := if_pos ⟨h1, hl⟩
        rw [e1, e2]
        exact hrel.sat _
      · rw [hl]; trivial
    · omega
  · simp only [h'] at hb
    split at hb
    · exact hrel.fzn.own _ b hb
    · exact absurd rfl hb
  · rw [h.nx] at hi
    show (if i < names.length then _ else _) = _
    rw [if_neg (by omega)]
  · have e1 : β' i = β (names.getD i 0) := if_pos (by omega)
    rw [e1, hpre.2 i (by omega)]
    exact hB i hi
end Sx

/- Entries as the engine tells them. -/
namespace Go.Proofs.Ytbhefgajgdcajaa
open Sx
set_option maxRecDepth 100000
abbrev iC (n : Int) : CV := .val (.int .i64 n)
abbrev iV (n : Int) : SV := .cv (.val (.int .i64 n))
abbrev bC (b : Bool) : CV := .val (.bool b)
abbrev bV (b : Bool) : SV := .cv (.val (.bool b))
abbrev lf (l : List Int) (j : Nat) : Int := l.getD j 0
abbrev lbC (l : List Int) : CV := .rsl 1 l.length none (byf (lf l))
abbrev inC (l : List Int) (j : Nat) : List CV := [iC (l.getD j 0)]
abbrev mvC (l : List Mv) (j : Nat) : List CV := [iC (l.getD j (0, 0, 0, 0)).1, iC (l.getD j (0, 0, 0, 0)).2.1, iC (l.getD j (0, 0, 0, 0)).2.2.1, iC (l.getD j (0, 0, 0, 0)).2.2.2]
abbrev lvC (l : List Lv) (j : Nat) : List CV := [iC (l.getD j (0, 0, 0, false)).1, iC (l.getD j (0, 0, 0, false)).2.1, iC (l.getD j (0, 0, 0, false)).2.2.1, bC (l.getD j (0, 0, 0, false)).2.2.2]
abbrev dtC (l : List Dt) (j : Nat) : List CV := [iC (l.getD j (0, 0)).1, iC (l.getD j (0, 0)).2]
abbrev opC (l : List Op) (j : Nat) : List CV := [iC (l.getD j (0, 0, [])).1, .rsl 4 (l.getD j (0, 0, [])).2.2.length none (mvC (l.getD j (0, 0, [])).2.2), iC (l.getD j (0, 0, [])).2.1]
abbrev mvS (l : List Mv) : CV := .rsl 4 l.length none (mvC l)
abbrev lvS (l : List Lv) : CV := .rsl 4 l.length none (lvC l)
abbrev dtS (l : List Dt) : CV := .rsl 2 l.length none (dtC l)
abbrev opS (l : List Op) : CV := .rsl 3 l.length none (opC l)
def Ent.cells (e : Ent) : List CV := [iC e.k, iC e.t, iC e.u, iC e.h, iC e.p, iC e.n, iC e.a, iC e.b, iC e.c, iC e.d, lbC e.o, lbC e.w, mvS e.m, lvS e.l, dtS e.y, opS e.q]
abbrev Ent.V (e : Ent) : SV := .agg e.cells
theorem lf_app (a b : List Int) (j : Nat) : lf (a ++ b) j = if j < a.length then lf a j else lf b (j - a.length) := by
  unfold lf
  rw [List.getD_eq_getElem?_getD, List.getElem?_append]
  split
  · rw [List.getD_eq_getElem?_getD]
  · rw [List.getD_eq_getElem?_getD]
theorem lf_drop (a : List Int) (n j : Nat) : lf (a.drop n) j = lf a (n + j) := by
  unfold lf
  rw [List.getD_eq_getElem?_getD, List.getElem?_drop, List.getD_eq_getElem?_getD]
theorem lf_take (a : List Int) (n j : Nat) (h : j < n) : lf (a.take n) j = lf a j := by
  unfold lf
  rw [List.getD_eq_getElem?_getD, List.getElem?_take, if_pos h, List.getD_eq_getElem?_getD]
theorem lf_byt {l : List Int} (h : byts l) : Byt (lf l) := fun j => by
  unfold lf
  rw [List.getD_eq_getElem?_getD]
  cases e : l[j]? with
  | none => exact ⟨Int.le_refl 0, by decide⟩
  | some x => exact h x (List.mem_of_getElem? e)
/-- A writer: what it has written. -/
abbrev wR (L : List Int) : List Res := [.cells [.slc 1 1 0 L.length none], .recs 1 L.length (byf (lf L))]
abbrev wP (L : List Int) : List Res := [.cells [.slc 2 1 0 L.length none], .gone, .recs 1 L.length (byf (lf L))]
end Go.Proofs.Ytbhefgajgdcajaa

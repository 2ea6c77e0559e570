/- Rows of statements: arguments of any shape opened at once; what is below the old heap reads as it did. -/
import Derived.Test.YtbhefgajgdcajaaSxBytes
import Derived.Carry
import Derived.SizedLaws
set_option linter.unusedVariables false
set_option linter.unusedSimpArgs false
namespace Sx
open Go Go.ChangeShapes Go.WideShapes Go.ChangeAt Go.RowKit

inductive Shp where
  | int (k : IntKind)
  | bool
  | str
  | slice (e : Shp)
  | struct (s : Shp)
  | arr (s : Shp)
  | nil
  | cons (a r : Shp)

def Shp.size : Shp → Nat
  | .int _ | .bool | .str | .slice _ => 1
  | .struct s | .arr s => s.size
  | .nil => 0
  | .cons a r => a.size + r.size

/-- n times the same, one behind the other. -/
def Shp.times : Nat → Shp → Shp
  | 0, _ => .nil
  | n + 1, a => .cons a (times n a)

mutual
def Shp.fits (P : Program) : Shp → TypeId → Bool
  | .int k, t => match P.underlying t with
    | some (.int k') => decide (k' = k)
    | _ => false
  | .bool, t => match P.underlying t with
    | some .bool => true
    | _ => false
  | .str, t => match P.underlying t with
    | some .string => true
    | _ => false
  | .slice e, t => match P.underlying t with
    | some (.slice u) => decide (P.cellsOf u = e.size) && decide (0 < e.size) && decide (0 < P.bytesOf u) && e.fits P u
    | _ => false
  | .struct s, t => match P.underlying t with
    | some (.struct fs) => decide (P.cellsOf t = s.size) && s.fitsF P fs.toList 0
    | _ => false
  | .arr s, t => match P.underlying t with
    | some (.array n u) => decide (P.cellsOf t = s.size) && s.fitsA P n u 0
    | _ => false
  | .nil, _ => false
  | .cons _ _, _ => false
def Shp.fitsF (P : Program) : Shp → List Field → Nat → Bool
  | .nil, [], _ => true
  | .cons a r, f :: fs, off => decide (f.offset = off) && decide (P.cellsOf f.type = a.size) && a.fits P f.type && r.fitsF P fs (off + a.size)
  | _, _, _ => false
def Shp.fitsA (P : Program) : Shp → Nat → TypeId → Nat → Bool
  | .nil, 0, _, _ => true
  | .cons a r, n + 1, u, k => decide (P.cellsOf u = a.size) && a.fits P u && r.fitsA P n u (k + 1)
  | _, _, _, _ => false
end

/-- What is read takes no more bytes than the form lets it. -/
def Wgt {H : Type} (P : Program) (t : TypeId) (d : DataW H) : Prop := ∀ n ∈ d.weights P t, n ≤ 140737488351232

theorem wgtAll {H : Type} {P : Program} {e : TypeId} : ∀ {l : List (DataW H)}, (∀ n ∈ DataW.weightsAll P e l, n ≤ 140737488351232) → ∀ i (h : i < l.length), Wgt P e l[i]
  | d :: r, h, 0, _ => fun n hn => h n (by simp only [DataW.weightsAll, List.mem_append]; exact .inl hn)
  | d :: r, h, i + 1, hi => wgtAll (l := r) (fun n hn => h n (by simp only [DataW.weightsAll, List.mem_append]; exact .inr hn)) i (by simpa using hi)
theorem wgtEach {H : Type} {P : Program} {ts : List TypeId} {l : List (DataW H)} (h : ∀ n ∈ DataW.weightsEach P ts l, n ≤ 140737488351232) {i : Nat} {t : TypeId} {d : DataW H} (ht : ts[i]? = some t) (hd : l[i]? = some d) : Wgt P t d :=
  fun n hn => h n (DataW.weights_mem_each ht hd n hn)

/-- What cells of a shape say. -/
def Shp.Ok : Shp → List CV → Prop
  | .int k, l => ∃ n, l = [.val (.int k n)] ∧ (Lit.int k n).wf = true
  | .bool, l => ∃ b, l = [.val (.bool b)]
  | .str, l => ∃ s, l = [.val (.string s)] ∧ s.size ≤ 140737488351232
  | .slice e, l => ∃ n f, l = [.rsl e.size n none f] ∧ n ≤ 140737488351232 ∧ ∀ i, i < n → e.Ok (f i)
  | .struct s, l => s.Ok l
  | .arr s, l => s.Ok l
  | .nil, l => l = []
  | .cons a r, l => ∃ l1 l2, l = l1 ++ l2 ∧ a.Ok l1 ∧ r.Ok l2

section
variable {H : Type} {enc : TypeId × Value → H} {P : Program} {W : World}

mutual
theorem open_cells : ∀ (sh : Shp) {t : TypeId}, sh.fits P t = true → ∀ {fuel : Nat} {cs : List Value} {x : DataW H × List MemPlace}, DataW.trod enc P W 0 (fun _ => true) true fuel t cs = some x → Wgt P t x.1 → ∃ l, CV.DenL (env0 W) l cs ∧ sh.Ok l
  | .int k, t, hf, fuel, cs, x, h, hz => by
    unfold Shp.fits at hf
    split at hf
    case h_2 => cases hf
    rename_i k' ht
    simp only [decide_eq_true_eq] at hf; subst hf
    obtain ⟨n, rfl, _, hw⟩ := DataW.trod_int ht h
    exact ⟨[.val (.int k' n)], ⟨⟨rfl, trivial⟩, trivial⟩, n, rfl, hw⟩
  | .bool, t, hf, fuel, cs, x, h, hz => by
    unfold Shp.fits at hf
    split at hf
    case h_2 => cases hf
    rename_i ht
    obtain ⟨b, rfl, _⟩ := DataW.trod_bool ht h
    exact ⟨[.val (.bool b)], ⟨⟨rfl, trivial⟩, trivial⟩, b, rfl⟩
  | .str, t, hf, fuel, cs, x, h, hz => by
    unfold Shp.fits at hf
    split at hf
    case h_2 => cases hf
    rename_i ht
    obtain ⟨s, rfl, rfl, hs⟩ := DataW.trod_string ht h
    exact ⟨[.val (.string s)], ⟨⟨rfl, trivial⟩, trivial⟩, s, rfl, hz s.size (by simp [DataW.weights])⟩
  | .slice e, t, hf, fuel, cs, x, h, hz => by
    unfold Shp.fits at hf
    split at hf
    case h_2 => cases hf
    rename_i u ht
    simp only [Bool.and_eq_true, decide_eq_true_eq] at hf
    obtain ⟨⟨⟨hc, h0⟩, hb0⟩, he⟩ := hf
    rcases Go.Deep.open_slice ht h with ⟨rfl, _⟩ | ⟨a, len, cap, m, n, D, Pl, rfl, _, hl, hcm, hm, rfl, hx⟩
    · exact ⟨[.rsl e.size 0 none fun _ => []], ⟨rsl_den_nil h0 _, trivial⟩, 0, _, rfl, Nat.zero_le _, fun i hi => by omega⟩
    · rw [hc] at hx
      have hel : ∀ i, i < len → ∃ p : List Value × List CV, W.cells? 0 (a.add (i * e.size)) e.size = some p.1 ∧ CV.DenL (env0 W) p.2 p.1 ∧ e.Ok p.2 := fun i hi => by
        obtain ⟨cs', h1, h2⟩ := hx i (by rw [hm]; simp; omega)
        have hw : Wgt P u (D i) := by
          have hall : ∀ n ∈ DataW.weightsAll P u ((List.range len).map D), n ≤ 140737488351232 := fun n hn => hz n (by simp only [DataW.weights, ht, List.mem_cons, List.mem_append]; exact .inr (.inl hn))
          have := wgtAll hall i (by simpa using hi)
          simpa using this
        obtain ⟨l, k1, k2⟩ := open_cells e he h2 hw
        exact ⟨(cs', l), h1, k1, k2⟩
      obtain ⟨q, hq⟩ := Go.Deep.choose_lt hel
      have hlen : len ≤ 140737488351232 := by
        have h1 := hz ((len + (m - len)) * P.bytesOf u) (by simp only [DataW.weights, ht, List.mem_cons, List.length_map, List.length_range]; exact .inl trivial)
        have h2 : len * 1 ≤ (len + (m - len)) * P.bytesOf u := Nat.mul_le_mul (by omega) hb0
        omega
      exact ⟨[.rsl e.size len none fun i => (q i).2], ⟨rsl_den h0 hl (fun i => (q i).1) _ (fun i hi => (hq i hi).1) (fun i hi => (hq i hi).2.1), trivial⟩, len, _, rfl, hlen, fun i hi => (hq i hi).2.2⟩
  | .struct s, t, hf, fuel, cs, x, h, hz => by
    unfold Shp.fits at hf
    split at hf
    case h_2 => cases hf
    rename_i fs ht
    simp only [Bool.and_eq_true, decide_eq_true_eq] at hf
    obtain ⟨xs, n, _, rfl, hl, hxl, hel⟩ := DataW.trod_struct ht h
    have := open_fields s fs.toList 0 hf.2 (fuel := n) (cs := cs) (by rw [hl, hf.1]; simp) (fun i f hi => by
      have h1 := hel i f (by simpa using hi)
      have hi' : i < fs.size := by simpa using (List.getElem?_eq_some_iff.1 hi).1
      rw [List.getElem?_eq_getElem (by omega)] at h1
      refine ⟨_, h1, wgtEach (ts := fs.toList.map (·.type)) (l := xs.map (·.1)) (i := i) (fun n hn => hz n (by simp only [DataW.weights, ht]; exact hn)) ?_ ?_⟩
      · simp [hi]
      · rw [List.getElem?_map, List.getElem?_eq_getElem (by omega)]; rfl)
    rw [List.drop_zero] at this; exact this
  | .arr s, t, hf, fuel, cs, x, h, hz => by
    unfold Shp.fits at hf
    split at hf
    case h_2 => cases hf
    rename_i n u ht
    simp only [Bool.and_eq_true, decide_eq_true_eq] at hf
    obtain ⟨xs, m, _, rfl, hl, hxl, hel⟩ := DataW.trod_array ht h
    have := open_elems s n u 0 hf.2 (fuel := m) (cs := cs) (by rw [hl, hf.1]; simp) (fun i hi => by
      have h1 := hel i (by omega)
      rw [List.getElem?_eq_getElem (by omega)] at h1
      rw [Nat.zero_add]
      refine ⟨_, h1, ?_⟩
      have := wgtAll (l := xs.map (·.1)) (e := u) (P := P) (fun n hn => hz n (by simp only [DataW.weights, ht]; exact hn)) i (by simp; omega)
      simpa using this)
    rw [Nat.zero_mul, List.drop_zero] at this; exact this
  | .nil, t, hf, _, _, _, _, _ => by unfold Shp.fits at hf; cases hf
  | .cons _ _, t, hf, _, _, _, _, _ => by unfold Shp.fits at hf; cases hf
theorem open_fields : ∀ (s : Shp) (fs : List Field) (off : Nat), s.fitsF P fs off = true → ∀ {fuel : Nat} {cs : List Value}, cs.length = off + s.size →
    (∀ (i : Nat) (f : Field), fs[i]? = some f → ∃ x, DataW.trod enc P W 0 (fun _ => true) true fuel f.type ((cs.drop f.offset).take (P.cellsOf f.type)) = some x ∧ Wgt P f.type x.1) → ∃ l, CV.DenL (env0 W) l (cs.drop off) ∧ s.Ok l
  | .nil, [], off, _, fuel, cs, hl, _ => ⟨[], by rw [List.drop_of_length_le (by rw [hl]; simp [Shp.size])]; trivial, rfl⟩
  | .cons a r, f :: fs, off, hf, fuel, cs, hl, hel => by
    unfold Shp.fitsF at hf
    simp only [Bool.and_eq_true, decide_eq_true_eq] at hf
    obtain ⟨⟨⟨h1, h2⟩, h3⟩, h4⟩ := hf
    obtain ⟨x, hx, hw⟩ := hel 0 f rfl
    rw [h1, h2] at hx
    obtain ⟨l1, k1, k2⟩ := open_cells a h3 hx hw
    simp only [Shp.size] at hl
    obtain ⟨l2, k3, k4⟩ := open_fields r fs (off + a.size) h4 (fuel := fuel) (cs := cs) (by omega) (fun i g hi => hel (i + 1) g (by simpa using hi))
    refine ⟨l1 ++ l2, ?_, l1, l2, rfl, k2, k4⟩
    have he : cs.drop off = (cs.drop off).take a.size ++ cs.drop (off + a.size) := by
      rw [← List.drop_drop, List.take_append_drop]
    rw [he]
    exact CV.denL_append _ _ _ _ k1 k3
  | .nil, _ :: _, _, hf, _, _, _, _ => by unfold Shp.fitsF at hf; cases hf
  | .cons _ _, [], _, hf, _, _, _, _ => by unfold Shp.fitsF at hf; cases hf
  | .int _, _, _, hf, _, _, _, _ => by unfold Shp.fitsF at hf; cases hf
  | .bool, _, _, hf, _, _, _, _ => by unfold Shp.fitsF at hf; cases hf
  | .str, _, _, hf, _, _, _, _ => by unfold Shp.fitsF at hf; cases hf
  | .slice _, _, _, hf, _, _, _, _ => by unfold Shp.fitsF at hf; cases hf
  | .struct _, _, _, hf, _, _, _, _ => by unfold Shp.fitsF at hf; cases hf
  | .arr _, _, _, hf, _, _, _, _ => by unfold Shp.fitsF at hf; cases hf
theorem open_elems : ∀ (s : Shp) (n : Nat) (u : TypeId) (k : Nat), s.fitsA P n u k = true → ∀ {fuel : Nat} {cs : List Value}, cs.length = k * P.cellsOf u + s.size →
    (∀ (i : Nat), i < n → ∃ x, DataW.trod enc P W 0 (fun _ => true) true fuel u ((cs.drop ((k + i) * P.cellsOf u)).take (P.cellsOf u)) = some x ∧ Wgt P u x.1) → ∃ l, CV.DenL (env0 W) l (cs.drop (k * P.cellsOf u)) ∧ s.Ok l
  | .nil, 0, u, k, _, fuel, cs, hl, _ => ⟨[], by rw [List.drop_of_length_le (by rw [hl]; simp [Shp.size])]; trivial, rfl⟩
  | .cons a r, n + 1, u, k, hf, fuel, cs, hl, hel => by
    unfold Shp.fitsA at hf
    simp only [Bool.and_eq_true, decide_eq_true_eq] at hf
    obtain ⟨⟨h2, h3⟩, h4⟩ := hf
    obtain ⟨x, hx, hw⟩ := hel 0 (by omega)
    rw [Nat.add_zero] at hx
    obtain ⟨l1, k1, k2⟩ := open_cells a h3 hx hw
    simp only [Shp.size] at hl
    have hk : (k + 1) * P.cellsOf u = k * P.cellsOf u + P.cellsOf u := by rw [Nat.add_mul, Nat.one_mul]
    obtain ⟨l2, k3, k4⟩ := open_elems r n u (k + 1) h4 (fuel := fuel) (cs := cs) (by rw [hk]; omega) (fun i hi => by
      have := hel (i + 1) (by omega)
      rw [show k + 1 + i = k + (i + 1) by omega]; exact this)
    refine ⟨l1 ++ l2, ?_, l1, l2, rfl, k2, k4⟩
    have he : cs.drop (k * P.cellsOf u) = (cs.drop (k * P.cellsOf u)).take (P.cellsOf u) ++ cs.drop ((k + 1) * P.cellsOf u) := by
      rw [hk, ← List.drop_drop, List.take_append_drop]
    rw [he]
    exact CV.denL_append _ _ _ _ k1 k3
  | .nil, _ + 1, _, _, hf, _, _, _, _ => by unfold Shp.fitsA at hf; cases hf
  | .cons _ _, 0, _, _, hf, _, _, _, _ => by unfold Shp.fitsA at hf; cases hf
  | .int _, _, _, _, hf, _, _, _, _ => by unfold Shp.fitsA at hf; cases hf
  | .bool, _, _, _, hf, _, _, _, _ => by unfold Shp.fitsA at hf; cases hf
  | .str, _, _, _, hf, _, _, _, _ => by unfold Shp.fitsA at hf; cases hf
  | .slice _, _, _, _, hf, _, _, _, _ => by unfold Shp.fitsA at hf; cases hf
  | .struct _, _, _, _, hf, _, _, _, _ => by unfold Shp.fitsA at hf; cases hf
  | .arr _, _, _, _, hf, _, _, _, _ => by unfold Shp.fitsA at hf; cases hf
end

/-- What an argument of a shape is. -/
def Shp.OkS : Shp → SV → Prop
  | .struct s, v => ∃ l, v = .agg l ∧ s.Ok l
  | .arr s, v => ∃ l, v = .agg l ∧ s.Ok l
  | sh, v => ∃ c, v = .cv c ∧ sh.Ok [c]

def OkAll : List Shp → List SV → Prop
  | [], [] => True
  | a :: l, v :: m => a.OkS v ∧ OkAll l m
  | _, _ => False

def fitsAll (P : Program) : List Shp → List TypeId → Bool
  | [], [] => true
  | a :: l, t :: m => a.fits P t && fitsAll P l m
  | _, _ => false

theorem okWide_arrayD {P : Program} {w : World} {r : Reach} {base : Nat} {t e : TypeId} {n : Nat} {v : Value} (ht : P.underlying t = some (.array n e)) (h : Value.okWide P w r base t v) : ∃ cs, v = .agg cs := by
  simp only [Value.okWide, ht] at h
  obtain ⟨cs, h1, _⟩ := h
  exact ⟨cs, h1⟩

theorem open_arg (sh : Shp) {t : TypeId} (hf : sh.fits P t = true) {v : Value} {d : DataW H} {p : List MemPlace} {b0 : Nat} (hv : Value.okWide P W .any b0 t v) (h : DataW.Trod enc P W 0 (fun _ => true) true t v d p) (hz : Wgt P t d) :
    ∃ s, SV.Den (env0 W) s v ∧ sh.OkS s := by
  obtain ⟨fuel, h⟩ := h
  obtain ⟨l, h1, h2⟩ := open_cells sh hf h hz
  have one : (∀ cs, v ≠ .agg cs) → (∃ c, l = [c]) → ∃ s, SV.Den (env0 W) s v ∧ ∃ c, s = .cv c ∧ sh.Ok [c] := fun hna ⟨c, hc⟩ => by
    subst hc
    have hcells : v.cells.toList = [v] := by cases v <;> first | rfl | exact absurd rfl (hna _)
    rw [hcells] at h1
    exact ⟨.cv c, h1.1, c, rfl, h2⟩
  cases sh with
  | struct s =>
    unfold Shp.fits at hf
    split at hf
    case h_2 => cases hf
    rename_i fs ht
    obtain ⟨cs, rfl, _⟩ := okWide_struct ht hv
    exact ⟨.agg l, ⟨cs.toList, by simp, by simpa [Value.cells] using h1⟩, l, rfl, h2⟩
  | arr s =>
    unfold Shp.fits at hf
    split at hf
    case h_2 => cases hf
    rename_i n u ht
    obtain ⟨cs, rfl⟩ := okWide_arrayD ht hv
    exact ⟨.agg l, ⟨cs.toList, by simp, by simpa [Value.cells] using h1⟩, l, rfl, h2⟩
  | int k =>
    unfold Shp.fits at hf
    split at hf
    case h_2 => cases hf
    rename_i k' ht
    obtain ⟨n, rfl⟩ := okWide_int ht hv
    obtain ⟨m, rfl, _⟩ := h2
    exact one (fun _ e => by cases e) ⟨_, rfl⟩
  | bool =>
    unfold Shp.fits at hf
    split at hf
    case h_2 => cases hf
    rename_i ht
    obtain ⟨n, rfl⟩ := okWide_bool ht hv
    obtain ⟨m, rfl⟩ := h2
    exact one (fun _ e => by cases e) ⟨_, rfl⟩
  | str =>
    unfold Shp.fits at hf
    split at hf
    case h_2 => cases hf
    rename_i ht
    obtain ⟨n, rfl⟩ := okWide_string ht hv
    obtain ⟨m, rfl, _⟩ := h2
    exact one (fun _ e => by cases e) ⟨_, rfl⟩
  | slice e =>
    unfold Shp.fits at hf
    split at hf
    case h_2 => cases hf
    rename_i u ht
    obtain ⟨a, n, c, rfl⟩ := okWide_slice ht hv
    obtain ⟨m, f, rfl, _⟩ := h2
    exact one (fun _ e => by cases e) ⟨_, rfl⟩
  | nil => unfold Shp.fits at hf; cases hf
  | cons _ _ => unfold Shp.fits at hf; cases hf

theorem open_args : ∀ (shs : List Shp) (ts : List TypeId) (vs : List Value) (ds : List (DataW H)) (p : List MemPlace) {b0 : Nat}, fitsAll P shs ts = true → (∀ (j : Nat) t v, ts[j]? = some t → vs[j]? = some v → Value.okWide P W .any b0 t v) →
    DataW.TrodAll enc P W 0 (fun _ => true) true ts vs ds p → (∀ n ∈ DataW.weightsEach P ts ds, n ≤ 140737488351232) → ∃ svs, SV.DenL (env0 W) svs vs ∧ OkAll shs svs
  | [], [], vs, ds, p, _, _, _, h, _ => by
    obtain ⟨rfl, _, _⟩ := trodAll_nil h
    exact ⟨[], trivial, trivial⟩
  | a :: shs, t :: ts, vs, ds, p, _, hf, hv, h, hz => by
    obtain ⟨v, vs', d, ds', q, q', rfl, rfl, rfl, h1, h2⟩ := trodAll_cons h
    simp only [fitsAll, Bool.and_eq_true] at hf
    obtain ⟨s, k1, k2⟩ := open_arg a hf.1 (hv 0 t v rfl rfl) h1 (wgtEach (i := 0) hz rfl rfl)
    obtain ⟨svs, k3, k4⟩ := open_args shs ts vs' ds' q' hf.2 (fun j t v h3 h4 => hv (j + 1) t v (by simpa using h3) (by simpa using h4)) h2 (fun n hn => hz n (by simp only [DataW.weightsEach, List.mem_append]; exact .inr hn))
    exact ⟨s :: svs, ⟨k1, k3⟩, k2, k4⟩
  | [], _ :: _, _, _, _, _, hf, _, _, _ => by cases hf
  | _ :: _, [], _, _, _, _, hf, _, _, _ => by cases hf

/-- Below the heap's old size nothing has turned: all arguments read as they did. -/
theorem below_trodAll (hl : laidOutB P = true) {W' : World} (hb : Below W.heap.size W W') : ∀ (ts : List TypeId) (vs : List Value) (ds : List (DataW H)) (p : List MemPlace),
    (ts.all fun t => P.readableRec t && decide (t < P.types.size)) = true → (∀ x ∈ p, x.block < W.heap.size) → DataW.TrodAll enc P W 0 (fun _ => true) true ts vs ds p → DataW.TrodAll enc P W' 0 (fun b => decide (b < W.heap.size)) true ts vs ds p
  | [], vs, ds, p, _, _, h => by
    obtain ⟨rfl, rfl, rfl⟩ := trodAll_nil h
    exact trodAll_mk0
  | t :: ts, vs, ds, p, hr, hlt, h => by
    obtain ⟨v, vs', d, ds', q, q', rfl, rfl, rfl, h1, h2⟩ := trodAll_cons h
    simp only [List.all_cons, Bool.and_eq_true, decide_eq_true_eq] at hr
    exact ⟨q, q', Below.trod hl hr.1.1 hr.1.2 h1 hb (fun x hx => hlt x (by simp [hx])), below_trodAll hl hb ts vs' ds' q' (by simpa using hr.2) (fun x hx => hlt x (by simp [hx])) h2, rfl⟩

/-- What a statement's law answers. -/
def tru (v : SV) (ρ' : List Res) : Prop := v = .cv (.val (.bool true)) ∧ ρ' = []

theorem law_calls {id : FuncId} {shs : List Shp} {ts : List TypeId} (hf : fitsAll P shs ts = true) (hs : ∀ svs, OkAll shs svs → FSpec P id svs [] tru) {vs : List Value} {ds : List (DataW H)} {p : List MemPlace} {b0 : Nat}
    (hv : ∀ (j : Nat) t v, ts[j]? = some t → vs[j]? = some v → Value.okWide P W .any b0 t v) (h : DataW.TrodAll enc P W 0 (fun _ => true) true ts vs ds p) (hz : (DataW.weightsEach P ts ds).all (· ≤ reachBytes) = true) :
    Calls P id (List.toArray vs) W fun e w' => e = .returned (.bool true) ∧ Below W.heap.size W w' := by
  obtain ⟨svs, h1, h2⟩ := open_args shs ts vs ds p hf hv h (fun n hn => by exact of_decide_eq_true (List.all_eq_true.1 hz n hn))
  exact top0 (hs svs h2) (fun v ρ' hp => hp.1) h1
end

/-- A contract serves where its arguments are told with more. -/
theorem FSpec.told {P : Program} {id : FuncId} {args args' : List SV} {post : SV → List Res → Prop} (h : FSpec P id args [] post) (hw : slotsW [] noNm 0 0 args args') : FSpec P id args' [] post := by
  refine ⟨h.fn, fun hf w β hh vs h1 h2 h3 => h.spec hf w β hh vs h1 h2 ?_⟩
  exact slotsW_den ⟨fun _ _ _ h => (by cases h), fun _ _ h => h⟩ (fun j sz m f hj => (by cases hj)) (fun j h1 h2 => by omega) _ _ _ hw h3

theorem ok_int {k : IntKind} {v : SV} (h : (Shp.int k).OkS v) : ∃ n, v = .cv (.val (.int k n)) ∧ (Lit.int k n).wf = true := by
  obtain ⟨c, rfl, n, h1, h2⟩ := h
  simp only [List.cons.injEq, and_true] at h1; subst h1
  exact ⟨n, rfl, h2⟩
theorem ok_bool {v : SV} (h : Shp.bool.OkS v) : ∃ b, v = .cv (.val (.bool b)) := by
  obtain ⟨c, rfl, b, h1⟩ := h
  simp only [List.cons.injEq, and_true] at h1; subst h1
  exact ⟨b, rfl⟩
theorem ok_str {v : SV} (h : Shp.str.OkS v) : ∃ s, v = .cv (.val (.string s)) ∧ s.size ≤ 140737488351232 := by
  obtain ⟨c, rfl, s, h1, h2⟩ := h
  simp only [List.cons.injEq, and_true] at h1; subst h1
  exact ⟨s, rfl, h2⟩

theorem wf_u8 {n : Int} (h : (Lit.int .u8 n).wf = true) : 0 ≤ n ∧ n ≤ 255 := by simpa [Lit.wf, IntKind.min, IntKind.max, IntKind.signed, IntKind.bits] using h
theorem wf_u16 {n : Int} (h : (Lit.int .u16 n).wf = true) : 0 ≤ n ∧ n ≤ 65535 := by simpa [Lit.wf, IntKind.min, IntKind.max, IntKind.signed, IntKind.bits] using h
theorem wf_u32 {n : Int} (h : (Lit.int .u32 n).wf = true) : 0 ≤ n ∧ n ≤ 4294967295 := by simpa [Lit.wf, IntKind.min, IntKind.max, IntKind.signed, IntKind.bits] using h
theorem wf_i64 {n : Int} (h : (Lit.int .i64 n).wf = true) : -9223372036854775808 ≤ n ∧ n ≤ 9223372036854775807 := by simpa [Lit.wf, IntKind.min, IntKind.max, IntKind.signed, IntKind.bits] using h

theorem choose_int {n : Nat} {p : Nat → Int → Prop} (h : ∀ i, i < n → ∃ x, p i x) : ∃ f : Nat → Int, (∀ i, i < n → p i (f i)) ∧ ∀ i, n ≤ i → f i = 0 := by
  obtain ⟨f, hf⟩ := Go.Deep.choose_lt h
  exact ⟨fun i => if i < n then f i else 0, fun i hi => by simp only [hi, if_true]; exact hf i hi, fun i hi => by simp only [show ¬ i < n by omega, if_false]⟩

/-- A cell of a slice of bytes. -/
theorem ok_bytesC {c : CV} (h : (Shp.slice (.int .u8)).Ok [c]) : ∃ n f, Byt f ∧ n ≤ 140737488351232 ∧ cvW [] noNm 0 0 (.rsl 1 n none (byf f)) c ∧ cvZ (.rsl 1 n none (byf f)) c := by
  obtain ⟨n, F, h1, h2, h3⟩ := h
  simp only [List.cons.injEq, and_true] at h1; subst h1
  obtain ⟨f, hf, hf0⟩ := choose_int (p := fun i x => F i = [.val (.int .u8 x)] ∧ (Lit.int .u8 x).wf = true) h3
  have hz : ∀ i, i < n → cvsZ (byf f i) (F i) := fun i hi => by rw [(hf i hi).1]; exact ⟨rfl, trivial⟩
  refine ⟨n, f, fun j => ?_, h2, .inr ⟨rfl, rfl, .inl rfl, hz⟩, ?_⟩
  · by_cases hj : j < n
    · exact wf_u8 (hf j hj).2
    · rw [hf0 j (by omega)]; omega
  · simp only [cvZ]
    exact .inr ⟨rfl, trivial, .inl trivial, hz⟩
theorem ok_bytes {v : SV} (h : (Shp.slice (.int .u8)).OkS v) : ∃ n f, Byt f ∧ n ≤ 140737488351232 ∧ slotW [] noNm 0 0 (.cv (.rsl 1 n none (byf f))) v := by
  obtain ⟨c, rfl, hc⟩ := h
  obtain ⟨n, f, h1, h2, h3, _⟩ := ok_bytesC hc
  exact ⟨n, f, h1, h2, h3⟩

theorem okAll_cons {a : Shp} {l : List Shp} {svs : List SV} (h : OkAll (a :: l) svs) : ∃ v m, svs = v :: m ∧ a.OkS v ∧ OkAll l m := by
  cases svs with
  | nil => exact h.elim
  | cons v m => exact ⟨v, m, rfl, h.1, h.2⟩
theorem okAll_nil {svs : List SV} (h : OkAll [] svs) : svs = [] := by
  cases svs with
  | nil => rfl
  | cons v m => exact h.elim
end Sx

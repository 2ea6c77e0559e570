/- Rows of bytes, and texts. -/
import Derived.Test.YtbhefgajgdcajaaSxTop
import Derived.Laws.Strings
set_option linter.unusedVariables false
set_option linter.unusedSimpArgs false
namespace Sx
open Go

/-- A row of bytes, byte by byte. -/
abbrev byf (f : Nat → Int) (j : Nat) : List CV := [.val (.int .u8 (f j))]
/-- All are bytes. -/
def Byt (f : Nat → Int) : Prop := ∀ j, 0 ≤ f j ∧ f j ≤ 255
/-- A row of bytes as a text. -/
abbrev bst (n : Nat) (f : Nat → Int) : ByteArray := bstr n (byf f)

theorem bstr_data (n : Nat) (g : Nat → List CV) : (bstr n g).data.toList = (List.range n).map fun j => cvB ((g j).headD .any) := by simp [bstr]
theorem bstr_size (n : Nat) (g : Nat → List CV) : (bstr n g).size = n := by
  have h := congrArg List.length (bstr_data n g)
  simp only [List.length_map, List.length_range] at h
  rw [Array.length_toList] at h
  exact h

theorem ba_ext {a b : ByteArray} (h : a.data.toList = b.data.toList) : a = b := by
  cases a; cases b
  simp only [ByteArray.mk.injEq]
  exact Array.ext' h

theorem bstr_congr {n : Nat} {f g : Nat → List CV} (h : ∀ j, j < n → f j = g j) : bstr n f = bstr n g := by
  apply ba_ext
  rw [bstr_data, bstr_data]
  apply List.map_congr_left
  intro j hj
  rw [h j (List.mem_range.1 hj)]

theorem ofNat_toNat_u8 {x : Int} (h0 : 0 ≤ x) (h1 : x ≤ 255) : ((UInt8.ofNat x.toNat).toNat : Int) = x := by
  rw [UInt8.toNat_ofNat']
  have : x.toNat % 2 ^ 8 = x.toNat := Nat.mod_eq_of_lt (by omega)
  rw [this]; omega

theorem bst_inj {n m : Nat} {f g : Nat → Int} (hf : ∀ j, j < n → 0 ≤ f j ∧ f j ≤ 255) (hg : ∀ j, j < m → 0 ≤ g j ∧ g j ≤ 255) (h : bst n f = bst m g) : n = m ∧ ∀ j, j < n → f j = g j := by
  have hn : n = m := by rw [← bstr_size n (byf f), ← bstr_size m (byf g)]; exact congrArg ByteArray.size h
  subst hn
  refine ⟨rfl, fun j hj => ?_⟩
  have h1 := congrArg (fun x : ByteArray => x.data.toList[j]?) h
  simp only [bst, bstr_data, List.getElem?_map, List.getElem?_range hj, Option.map_some, Option.some.injEq, byf, List.headD_cons, cvB] at h1
  have h2 := congrArg (fun x : UInt8 => (x.toNat : Int)) h1
  simp only [ofNat_toNat_u8 (hf j hj).1 (hf j hj).2, ofNat_toNat_u8 (hg j hj).1 (hg j hj).2] at h2
  exact h2

theorem sbyte_bst {n : Nat} {f : Nat → Int} {j : Nat} (hj : j < n) (h : 0 ≤ f j ∧ f j ≤ 255) : sbyte (bst n f) j = f j := by
  unfold sbyte
  rw [bst, bstr_data, List.getD_eq_getElem?_getD, List.getElem?_map, List.getElem?_range hj]
  simp only [Option.map_some, Option.getD_some, byf, List.headD_cons, cvB]
  exact ofNat_toNat_u8 h.1 h.2

theorem sbyte_byte (s : ByteArray) (j : Nat) : 0 ≤ sbyte s j ∧ sbyte s j ≤ 255 := by
  unfold sbyte
  have := (s.data.toList.getD j 0).toNat_lt
  omega

theorem bst_sbyte (s : ByteArray) : bst s.size (sbyte s) = s := by
  apply ba_ext
  rw [bst, bstr_data]
  apply List.ext_getElem?
  intro j
  by_cases hj : j < s.size
  · rw [List.getElem?_map, List.getElem?_range hj]
    have hl : j < s.data.toList.length := by simpa using hj
    simp only [Option.map_some, byf, List.headD_cons, cvB, sbyte, List.getD_eq_getElem?_getD, List.getElem?_eq_getElem hl, Option.getD_some, Int.toNat_natCast, Option.some.injEq]
    exact UInt8.ofNat_toNat
  · have hl : s.data.toList.length ≤ j := by simpa using Nat.le_of_not_lt hj
    rw [List.getElem?_eq_none hl, List.getElem?_eq_none (by simpa using Nat.le_of_not_lt hj)]

theorem toList_beq (a b : ByteArray) : (a.toList == b.toList) = decide (a = b) := by
  rw [ByteArray.toList_eq, ByteArray.toList_eq]
  rw [Bool.eq_iff_iff]
  simp only [beq_iff_eq, decide_eq_true_eq]
  exact ⟨fun e => ba_ext e, fun e => by rw [e]⟩

/-- Two rows of bytes as texts: the same just if they are as long and byte by byte the same. -/
theorem bst_beq_true {n m : Nat} {f g : Nat → Int} (hn : n = m) (h : ∀ j, j < n → f j = g j) : ((bst n f).toList == (bst m g).toList) = true := by
  subst hn
  rw [toList_beq, decide_eq_true_eq]
  exact bstr_congr fun j hj => by simp only [byf, h j hj]

theorem str_ext {a b : ByteArray} (h : a.size = b.size) (hb : ∀ j, j < a.size → sbyte a j = sbyte b j) : a = b := by
  rw [← bst_sbyte a, ← bst_sbyte b, ← h]
  exact bstr_congr fun j hj => by simp only [byf, hb j hj]

/-! ### numbers of bytes -/
theorem u8wrap (n : Int) : IntKind.u8.wrap n = n % 256 := by
  simp only [IntKind.wrap, IntKind.bits, IntKind.signed]
  have e : ((2 : Int) ^ (8 : Nat)) = 256 := by decide
  simp [e]
theorem u16wrap (n : Int) : IntKind.u16.wrap n = n % 65536 := by
  simp only [IntKind.wrap, IntKind.bits, IntKind.signed]
  have e : ((2 : Int) ^ (16 : Nat)) = 65536 := by decide
  simp [e]
theorem u32wrap (n : Int) : IntKind.u32.wrap n = n % 4294967296 := by
  simp only [IntKind.wrap, IntKind.bits, IntKind.signed]
  have e : ((2 : Int) ^ (32 : Nat)) = 4294967296 := by decide
  simp [e]
theorem i64wrap {n : Int} (h0 : -9223372036854775808 ≤ n) (h1 : n ≤ 9223372036854775807) : IntKind.i64.wrap n = n := inI64_wrap ⟨h0, h1⟩

theorem u8min : IntKind.u8.min = 0 := by decide
theorem u8max : IntKind.u8.max = 255 := by decide
theorem u16min : IntKind.u16.min = 0 := by decide
theorem u16max : IntKind.u16.max = 65535 := by decide
theorem u32min : IntKind.u32.min = 0 := by decide
theorem u32max : IntKind.u32.max = 4294967295 := by decide

/-- Bits below, bits above. -/
theorem or_low (a : Nat) {b k : Nat} (h : b < 2 ^ k) : (a * 2 ^ k) ||| b = a * 2 ^ k + b := by
  rw [Nat.mul_comm, Nat.two_pow_add_eq_or_of_lt h]

theorem ibits_or {k : IntKind} {a b : Int} (ha : 0 ≤ a) (ha' : a < 2 ^ k.bits) (hb : 0 ≤ b) (hb' : b < 2 ^ k.bits) : ibits .or k a b = k.wrap ((a.toNat ||| b.toNat : Nat) : Int) := by
  unfold ibits
  have key : ∀ x : Int, 0 ≤ x → x < 2 ^ k.bits → (BitVec.ofInt k.bits x).toNat = x.toNat := fun x h0 h1 => by
    rw [BitVec.toNat_ofInt]
    rw [Int.emod_eq_of_lt h0 (by exact_mod_cast h1)]
  simp only [BitVec.toNat_or, key a ha ha', key b hb hb']

/-- n slots, of which some are known. -/
def mkSl (n : Nat) (l : List (Nat × SV)) : List SV := l.foldl (fun s p => s.set p.1 p.2) (List.replicate n .any)

/-! ### told otherwise -/
theorem rb {ν : Nat → Option Nat} {r : List CV} {F : Nat → Int} {j : Nat} (h : r = byf F j) : CV.renL ν r = byf F j := by rw [h]; rfl

section
variable {rs : List (Nat × Res)} {ν : Nat → Option Nat} {lo hi : Nat}
theorem cvW_frz {j sz n m : Nat} {mc : Option Nat} {f : Nat → List CV} (h : lk rs j = .frz sz m f) (hn : n ≤ m) : cvW rs ν lo hi (.rsl sz n none f) (.slc j sz 0 n mc) := by
  refine Or.inr ⟨rfl, rfl, rfl, ?_⟩
  rw [h]
  exact ⟨rfl, by omega, Or.inl fun i _ => by rw [Nat.zero_add]⟩
theorem cvW_frzAt {j sz l n m : Nat} {mc : Option Nat} {f g : Nat → List CV} (h : lk rs j = .frz sz m f) (hn : l + n ≤ m) (hg : ∀ i, i < n → f (l + i) = g i) : cvW rs ν lo hi (.rsl sz n none g) (.slc j sz l n mc) := by
  refine Or.inr ⟨rfl, rfl, rfl, ?_⟩
  rw [h]
  exact ⟨rfl, by omega, Or.inl hg⟩
theorem cvW_nil {sz : Nat} {g : Nat → List CV} (h : 0 < sz) : cvW rs ν lo hi (.rsl sz 0 none g) (.val (.slice none 0 0)) := Or.inr ⟨rfl, h, fun m hm => (by cases hm)⟩
theorem cvW_byf {n : Nat} {mc : Option Nat} {f g : Nat → Int} (h : ∀ i, i < n → f i = g i) : cvW rs ν lo hi (.rsl 1 n none (byf g)) (.rsl 1 n mc (byf f)) :=
  Or.inr ⟨rfl, rfl, Or.inl rfl, fun i hi => by simp only [byf, h i hi]; exact ⟨rfl, trivial⟩⟩
theorem cvW_byf' {n n' : Nat} {mc : Option Nat} {f g : Nat → Int} (hn : n' = n) (h : ∀ i, i < n → f i = g i) : cvW rs ν lo hi (.rsl 1 n none (byf g)) (.rsl 1 n' mc (byf f)) := by
  subst hn; exact cvW_byf h
theorem slotW_cv {c d : CV} (h : cvW rs ν lo hi c d) : slotW rs ν lo hi (.cv c) (.cv d) := h
theorem slotW_frz {j sz n m : Nat} {mc : Option Nat} {f : Nat → List CV} (h : lk rs j = .frz sz m f) (hn : n ≤ m) : slotW rs ν lo hi (.cv (.rsl sz n none f)) (.cv (.slc j sz 0 n mc)) := slotW_cv (cvW_frz h hn)
theorem slotW_frzAt {j sz l n m : Nat} {mc : Option Nat} {f g : Nat → List CV} (h : lk rs j = .frz sz m f) (hn : l + n ≤ m) (hg : ∀ i, i < n → f (l + i) = g i) : slotW rs ν lo hi (.cv (.rsl sz n none g)) (.cv (.slc j sz l n mc)) := slotW_cv (cvW_frzAt h hn hg)
theorem slotW_nil {sz : Nat} {g : Nat → List CV} (h : 0 < sz) : slotW rs ν lo hi (.cv (.rsl sz 0 none g)) (.cv (.val (.slice none 0 0))) := slotW_cv (cvW_nil h)
theorem slotW_byf {n : Nat} {mc : Option Nat} {f g : Nat → Int} (h : ∀ i, i < n → f i = g i) : slotW rs ν lo hi (.cv (.rsl 1 n none (byf g))) (.cv (.rsl 1 n mc (byf f))) := slotW_cv (cvW_byf h)
theorem slotW_byf' {n n' : Nat} {mc : Option Nat} {f g : Nat → Int} (hn : n' = n) (h : ∀ i, i < n → f i = g i) : slotW rs ν lo hi (.cv (.rsl 1 n none (byf g))) (.cv (.rsl 1 n' mc (byf f))) := slotW_cv (cvW_byf' hn h)
theorem slotW_eq {v : SV} (h : v = v) : slotW rs ν lo hi (v.ren ν) v := slotW_ren v
theorem rep_row {l : List CV} {v : Value} {n i : Nat} (h : l = List.replicate n (.val v)) (hi : i < n) : CV.renL ν ((l.drop (i * 1)).take 1) = [.val v] := by
  subst h
  rw [Nat.mul_one, List.drop_replicate, List.take_replicate, show min 1 (n - i) = 1 by omega]
  rfl
end
end Sx

/- What is put is taken, in plain words. -/
import Derived.Test.YtnddgbionjlnbaaLeafSame
import Derived.Test.YtnddgbionjlnbaaLeafSet
set_option linter.unusedVariables false
set_option linter.unusedSimpArgs false
namespace Go.Proofs.Ytnddgbionjlnbaa
open Sx
set_option maxRecDepth 100000
theorem hd_byte (x : Int) (j : Nat) : 0 ≤ hd x j ∧ hd x j ≤ 255 := by
  unfold hd; (repeat' split) <;> omega
theorem tile_byt {x : Int} {n : Nat} {f : Nat → Int} (hf : Byt f) : Byt (tile x n f) := by
  intro j; unfold tile
  have := hd_byte x j
  have := hf (j - 4)
  (repeat' split) <;> omega
theorem said_tile {x : Int} {n : Nat} {f : Nat → Int} (h0 : 0 ≤ x) (h1 : x ≤ 2147483647) : said (tile x n f) 4 = x := by
  simp only [said, tile, hd, Nat.reduceLT, if_true, Nat.reduceEqDiff, if_false]
  omega
/-- The halves of a page's tiles. -/
abbrev tA (x : Int) (F : Nat → Int) : Nat → Int := tile x (min 104 60) F
abbrev tB (x : Int) (F : Nat → Int) : Nat → Int := tile x (104 - min 104 60) fun j => F (min 104 60 + j)
theorem body_tiles {x y : Int} {F G : Nat → Int} (j : Nat) (hj : j < 120) : body2 (tA x F) (tB y G) j = if j < 60 then F j else if j < 104 then G j else 0 := by
  unfold body2 tA tB tile
  by_cases h : j < 60
  · rw [if_pos h, if_pos h, if_neg (by omega), if_pos (by omega), show 4 + j - 4 = j by omega]
  · rw [if_neg h, if_neg h, if_neg (by omega)]
    by_cases h2 : j < 104
    · rw [if_pos (by omega), if_pos h2]
      dsimp only
      rw [show min 104 60 + (j - 56 - 4) = j by omega]
    · rw [if_neg (by omega), if_neg h2]
theorem eTake_tiles {x y : Int} {F G : Nat → Int} (hx : 0 ≤ x ∧ x ≤ 2147483647) (hy : 0 ≤ y ∧ y ≤ 2147483647) : eTake 64 64 (tA x F) (tB y G) = if x = y then 0 else 3 := by
  unfold eTake
  rw [if_pos ⟨rfl, rfl⟩, said_tile hx.1 hx.2, said_tile hy.1 hy.2]
  by_cases h : x = y
  · rw [if_pos h, if_pos h, if_pos hx.2]
  · rw [if_neg h, if_neg h]
/-- All its cells may be read. -/
def Pg.Read (p : Pg) : Prop := ∀ i, i < 4 → (rdF 26 (flf (p.z i) (p.F i))).e = 0
theorem body_cell {p : Pg} {i : Nat} (hi : i < 4) (j : Nat) (hj : j < 26) : bodyF p (26 * i + j) = flf (p.z i) (p.F i) j := by
  unfold bodyF
  rw [show (26 * i + j) / 26 = i by omega, show (26 * i + j) % 26 = j by omega]
theorem cell_put {x y : Int} {p : Pg} {i : Nat} (hi : i < 4) (j : Nat) (hj : j < 26) : cellB (body2 (tA x (bodyF p)) (tB y (bodyF p))) i j = flf (p.z i) (p.F i) j := by
  unfold cellB
  rw [body_tiles _ (by omega), ← body_cell hi j hj]
  by_cases h : 26 * i + j < 60
  · rw [if_pos h]
  · rw [if_neg h, if_pos (by omega)]
theorem full_cell {B : Nat → Int} {i : Nat} : bst (flz (zB B i)) (flf (zB B i) (cellB B i)) = bst 26 (cellB B i) := by
  by_cases h : allZ 26 (cellB B i)
  · rw [zB_t h, full_blank (.inl rfl)]
    exact bstr_congr fun j hj => by simp only [byf, h j hj]
  · rw [zB_f h]; rfl
theorem take_put {p : Pg} (hs : p.Sized) (hx : 0 ≤ p.lsn ∧ p.lsn ≤ 2147483647) (hr : p.Read) :
    (ltk 64 64 (tA p.lsn (bodyF p)) (tB p.lsn (bodyF p))).2 = 0 ∧ SameP p (ltk 64 64 (tA p.lsn (bodyF p)) (tB p.lsn (bodyF p))).1 := by
  have he := eTake_tiles (F := bodyF p) (G := bodyF p) hx hx
  rw [if_pos rfl] at he
  have hok : okBody (body2 (tA p.lsn (bodyF p)) (tB p.lsn (bodyF p))) := ⟨fun j hj => by
    dsimp only
    rw [body_tiles _ (by omega), if_neg (by omega), if_neg (by omega)], fun i hi => by
    rw [rdF_congr fun j hj => cell_put hi j hj]; exact hr i hi⟩
  have hk : ltk 64 64 (tA p.lsn (bodyF p)) (tB p.lsn (bodyF p)) = (pageB p.lsn (body2 (tA p.lsn (bodyF p)) (tB p.lsn (bodyF p))), 0) := by
    unfold ltk
    rw [he, if_neg (by decide)]
    rw [said_tile hx.1 hx.2]
    exact if_pos hok
  rw [hk]
  refine ⟨rfl, fun i hi => ?_, rfl⟩
  unfold SameC
  dsimp only
  rw [full_cell, flz_26 (hs i hi)]
  exact bstr_congr fun j hj => by simp only [byf, cell_put hi j hj]
theorem sameC_refl (n : Nat) (f : Nat → Int) : SameC n f n f := rfl
theorem sameP_refl (p : Pg) : SameP p p := ⟨fun _ _ => rfl, rfl⟩
theorem sameP_symm {p q : Pg} (h : SameP p q) : SameP q p := ⟨fun i hi => (h.1 i hi).symm, h.2.symm⟩
theorem sameP_trans {p q r : Pg} (h : SameP p q) (h' : SameP q r) : SameP p r := ⟨fun i hi => (h.1 i hi).trans (h'.1 i hi), h.2.trans h'.2⟩
end Go.Proofs.Ytnddgbionjlnbaa

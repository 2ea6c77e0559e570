/- bytes.Count of one byte. -/
import Derived.Test.YtnddgbionjlnbaaCode
import Derived.Test.YtnddgbionjlnbaaCellPure
import Derived.Lib.Walk
import Derived.Lib.BytesEntry
import Derived.Laws.Externs
import Derived.Test.YtnddgbionjlnbaaSxBytes
set_option linter.unusedVariables false
set_option linter.unusedSimpArgs false
namespace Go.Proofs.Ytnddgbionjlnbaa
open Sx Go Go.RowKit
set_option maxRecDepth 1000000
/-- How many noughts there are. -/
def cz (n : Nat) (f : Nat → Int) : Nat := Go.Lib.countByte (Go.Lib.bytesOf ((List.range n).map f)) (0 : Int).toNat.toUInt8

theorem run_cz {P : Program} (w : World) (ad : Option Addr) (n c : Nat) (f : Nat → Int) (h : n = 0 ∨ ∃ a, ad = some a ∧ ∀ i, i < n → w.cell? (a.add i) = some (.int .u8 (f i))) :
    (Extern.BytealgCount.count #[.slice ad n c, .int .u8 0]).run P w = .ok (.int .i64 (cz n f)) w := by
  cases ad with
  | none =>
    rcases h with rfl | ⟨a, h, _⟩
    · exact Go.Lib.run_countString (P := P) .empty 0 w
    · cases h
  | some a =>
    have hc : ∀ i, i < n → w.cell? (a.add i) = some (.int .u8 (f i)) := by
      rcases h with rfl | ⟨b, e, h⟩
      · intro i hi; exact absurd hi (Nat.not_lt_zero _)
      · cases e; exact h
    obtain ⟨xs, hxs⟩ : ∃ xs, (List.range n).map f = xs := ⟨_, rfl⟩
    have hx : xs.length = n := by rw [← hxs]; simp
    have hl := Go.Lib.run_loadBytesX (P := P) w xs a .empty (fun j x hj => by
      have hjl : j < xs.length := (List.getElem?_eq_some_iff.1 hj).1
      rw [hc j (by omega)]
      rw [← hxs] at hj
      simp only [List.getElem?_map, List.getElem?_range (show j < n by omega), Option.map_some, Option.some.injEq] at hj
      rw [hj])
    rw [hx] at hl
    have hs := Go.Lib.run_countString (P := P) ⟨(Go.Lib.bytesOf xs).toArray⟩ 0 w
    have he : (⟨ByteArray.empty.data ++ (Go.Lib.bytesOf xs).toArray⟩ : ByteArray) = ⟨(Go.Lib.bytesOf xs).toArray⟩ := by
      apply ByteArray.ext
      show (#[] : Array UInt8) ++ (Go.Lib.bytesOf xs).toArray = (Go.Lib.bytesOf xs).toArray
      simp
    rw [he] at hl
    unfold cz
    rw [hxs]
    change Sem.run P (do
      let b ← Extern.Bytes.bytesOf (.slice (some a) n c)
      let c' ← Extern.Bytes.asByte (.int .u8 0)
      pure (goInt (b.foldl (fun n x => if x == c' then n + 1 else n) (0 : Nat)))) w = _
    change Sem.run P (do
      let b ← Extern.Bytes.bytesOf (.string ⟨(Go.Lib.bytesOf xs).toArray⟩)
      let c' ← Extern.Bytes.asByte (.int .u8 0)
      pure (goInt (b.foldl (fun n x => if x == c' then n + 1 else n) (0 : Nat)))) w = _ at hs
    simp only [Extern.Bytes.bytesOf, Sem.run_bind, Sem.run_pure, hl, Result.andThen] at hs ⊢
    simpa using hs

set_option maxHeartbeats 2000000 in
theorem count_calls (w : World) (ad : Option Addr) (n c : Nat) (f : Nat → Int) (h : n = 0 ∨ ∃ a, ad = some a ∧ ∀ i, i < n → w.cell? (a.add i) = some (.int .u8 (f i))) (a2 : Addr) (d : Nat) (hc2 : w.cell? a2 = some (.int .u8 0)) :
    Calls Try.prog 42 #[.slice ad n c, .slice (some a2) 1 d] w fun e w' => e = .returned (.int .i64 (cz n f)) ∧ w' = w := by
  go_enter Try.func42, (show Try.f42.ntmps = 35 from rfl)
  go_wp2
  rw [run_callFunc_extern Try.func50 (by kernel_rfl) (by kernel_rfl) (by kernel_rfl) (e := Extern.BytealgCount.count) (by kernel_rfl), run_cz w ad n c f h]
  simp only [Result.andThen]
  rw [Oper.upon_value]
  go_wp2
  go_ret
  exact ⟨rfl, rfl⟩

theorem byte_cells {β : Env} {w : World} (hs : Sub β.mem w) {n : Nat} {ad : Option Addr} {f : Nat → Int}
    (h : n = 0 ∨ ∃ a, ad = some a ∧ a.spot = none ∧ ∀ i, i < n → ∃ vs, vs.length = 1 ∧ CV.DenL β.bare (byf f i) vs ∧ ∀ j, j < 1 → hcell β.mem (a.add (i * 1 + j)) = vs[j]?) :
    n = 0 ∨ ∃ a, ad = some a ∧ ∀ i, i < n → w.cell? (a.add i) = some (.int .u8 (f i)) := by
  rcases h with h | ⟨a, e, _, h⟩
  · exact .inl h
  · refine .inr ⟨a, e, fun i hi => ?_⟩
    obtain ⟨vs, h1, h2, h3⟩ := h i hi
    match vs, h1, h2, h3 with
    | [x], _, h2, h3 =>
    obtain ⟨⟨rfl, _⟩, _⟩ := h2
    have := h3 0 (by omega)
    rw [Nat.mul_one, Nat.add_zero] at this
    exact hcell_world hs this

theorem sp_count (n : Nat) (f : Nat → Int) : FSpec Try.prog 42 [.cv (.rsl 1 n none (byf f)), .cv (.rsl 1 1 none (byf fun _ => 0))] [] (fun v ρ' => v = .cv (.val (.int .i64 (cz n f))) ∧ ρ' = []) := by
  refine ⟨⟨_, Try.func42, rfl, rfl⟩, ?_⟩
  intro hf w β h vs hr hnm hd
  match vs, hd with
  | [v0, v1], ⟨h0, h1, _⟩ =>
  obtain ⟨_, ad, cap, rfl, _, _, h2⟩ := h0
  obtain ⟨_, ad2, cap2, rfl, _, _, h3⟩ := h1
  have c1 := byte_cells hr.fzn.sub h2
  have c2 := byte_cells hr.fzn.sub h3
  rcases c2 with c2 | ⟨a2, rfl, c2⟩
  · cases c2
  have c2 := c2 0 (by omega)
  rw [show a2.add 0 = a2 by simp [Addr.add]] at c2
  refine (count_calls w ad n cap f c1 a2 cap2 c2).mono ?_
  rintro e w' ⟨rfl, rfl⟩
  exact ⟨_, _, [], β, h, rfl, ⟨rfl, rfl⟩, ⟨rfl, trivial⟩, fun i hi => rfl, hnm, hr, by simp, by simp, fun j hj _ => absurd hj (by simp), Ext.refl _⟩

theorem cz_all {n : Nat} {f : Nat → Int} (hb : Byt f) : cz n f = n ↔ allZ n f := by
  unfold cz Go.Lib.countByte
  have hl : (Go.Lib.bytesOf ((List.range n).map f)).length = n := by simp [Go.Lib.bytesOf]
  constructor
  · intro h j hj
    have h1 : ∀ b ∈ Go.Lib.bytesOf ((List.range n).map f), (0 : Int).toNat.toUInt8 = b := List.count_eq_length.1 (by rw [h, hl])
    have h2 := h1 (f j).toNat.toUInt8 (by
      simp only [Go.Lib.bytesOf, List.map_map, List.mem_map, List.mem_range]
      exact ⟨j, hj, rfl⟩)
    have h3 := ofNat_toNat_u8 (hb j).1 (hb j).2
    have h4 : (UInt8.ofNat (f j).toNat) = (0 : Int).toNat.toUInt8 := h2.symm
    rw [h4] at h3
    exact h3.symm
  · intro h
    have : ∀ b ∈ Go.Lib.bytesOf ((List.range n).map f), (0 : Int).toNat.toUInt8 = b := fun b hb' => by
      simp only [Go.Lib.bytesOf, List.map_map, List.mem_map, List.mem_range] at hb'
      obtain ⟨j, hj, rfl⟩ := hb'
      show (0 : Int).toNat.toUInt8 = (f j).toNat.toUInt8
      rw [h j hj]
    rw [List.count_eq_length.2 this, hl]
end Go.Proofs.Ytnddgbionjlnbaa

/- Arguments of moves, of texts of bytes. -/
import Derived.Test.YtoibipjahacdpaaMoves
import Derived.Test.YtoibipjahacdpaaSxRow
set_option linter.unusedVariables false
set_option linter.unusedSimpArgs false
namespace Go.Proofs.Ytoibipjahacdpaa
open Sx
abbrev i64sh : Shp := .int .i64
abbrev ridsh : Shp := .struct (.cons i64sh (.cons i64sh .nil))
abbrev mvsh : Shp := .struct (.cons ridsh (.cons ridsh .nil))
abbrev bysh : Shp := .slice (.int .u8)
/-- A row of texts of bytes. -/
abbrev byC (z : Nat → Nat) (f : Nat → Nat → Int) (i : Nat) : List CV := [.rsl 1 (z i) none (byf (f i))]

theorem ok_rid {l : List CV} (h : ridsh.Ok l) : ∃ a b, l = [iC a, iC b] := by
  obtain ⟨l1, l2, rfl, ⟨a, rfl, _⟩, l3, l4, rfl, ⟨b, rfl, _⟩, rfl⟩ := h
  exact ⟨a, b, rfl⟩
theorem ok_mv {l : List CV} (h : mvsh.Ok l) : ∃ x : Nat → Int, l = [iC (x 0), iC (x 1), iC (x 2), iC (x 3)] := by
  obtain ⟨l1, l2, rfl, h1, l3, l4, rfl, h2, rfl⟩ := h
  obtain ⟨a, b, rfl⟩ := ok_rid h1
  obtain ⟨c, d, rfl⟩ := ok_rid h2
  exact ⟨fun j => if j = 0 then a else if j = 1 then b else if j = 2 then c else d, rfl⟩
theorem ok_moves {v : SV} (h : (Shp.slice mvsh).OkS v) : ∃ n m, slotW [] noNm 0 0 (.cv (.rsl 4 n none (mvC m))) v := by
  obtain ⟨c, rfl, n, F, h1, _, h3⟩ := h
  simp only [List.cons.injEq, and_true] at h1; subst h1
  obtain ⟨m, hm⟩ := Go.Deep.choose_lt fun i hi => ok_mv (h3 i hi)
  exact ⟨n, m, .inr ⟨rfl, rfl, .inl rfl, fun i hi => by rw [hm i hi]; exact ⟨rfl, rfl, rfl, rfl, trivial⟩⟩⟩
theorem ok_texts {v : SV} (h : (Shp.slice bysh).OkS v) : ∃ r z f, (∀ i, Byt (f i)) ∧ (∀ i, i < r → z i ≤ 140737488351232) ∧ slotW [] noNm 0 0 (.cv (.rsl 1 r none (byC z f))) v := by
  obtain ⟨c, rfl, r, F, h1, _, h3⟩ := h
  simp only [List.cons.injEq, and_true] at h1; subst h1
  have h4 : ∀ i, i < r → ∃ q : Nat × (Nat → Int), Byt q.2 ∧ q.1 ≤ 140737488351232 ∧ cvsZ [.rsl 1 q.1 none (byf q.2)] (F i) := fun i hi => by
    obtain ⟨n, f, h5, _⟩ := h3 i hi
    have h6 := h3 i hi
    rw [h5] at h6
    obtain ⟨n, f, b1, b2, _, b3⟩ := ok_bytesC h6
    exact ⟨(n, f), b1, b2, by rw [h5]; exact ⟨b3, trivial⟩⟩
  obtain ⟨q, hq⟩ := Go.Deep.choose_lt h4
  refine ⟨r, fun i => if i < r then (q i).1 else 0, fun i => if i < r then (q i).2 else fun _ => 0, fun i => ?_, fun i hi => ?_, .inr ⟨rfl, rfl, .inl rfl, fun i hi => ?_⟩⟩
  · dsimp only; split
    · exact (hq i ‹_›).1
    · exact fun j => ⟨Int.le_refl 0, (by decide : (0 : Int) ≤ 255)⟩
  · dsimp only; rw [if_pos hi]; exact (hq i hi).2.1
  · have := (hq i hi).2.2
    simpa only [byC, hi, if_true] using this
end Go.Proofs.Ytoibipjahacdpaa

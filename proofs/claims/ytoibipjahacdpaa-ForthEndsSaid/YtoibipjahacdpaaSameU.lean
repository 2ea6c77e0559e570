/- Entries of units; the document's comparison of rows of entries. -/
import Derived.Test.YtoibipjahacdpaaSameE
set_option linter.unusedVariables false
set_option linter.unusedSimpArgs false
namespace Go.Proofs.Ytoibipjahacdpaa
open Sx
set_option maxRecDepth 100000
/-- An entry of a unit. -/
def uE (kind n a b c d : Int) (wn : Nat) (wf : Nat → Int) (mn : Nat) (mf : Nat → Nat → Int) : En :=
  ⟨fun j => if j = 0 then kind else if j = 2 then n else if j = 6 then a else if j = 7 then b else if j = 8 then c else if j = 9 then d else 0, 0, fun _ => 0, wn, wf, mn, mf, 0, fun _ _ => 0, fun _ => false, 0, fun _ _ => 0, 0, fun _ => 0, fun _ => 0, fun _ => 0, fun _ _ _ => 0⟩
abbrev enU (kind n a b c d : Int) (wn : Nat) (wf : Nat → Int) (mn : Nat) (mf : Nat → Nat → Int) : SV := .agg [iC kind, iC 0, iC n, iC 0, iC 0, iC 0, iC a, iC b, iC c, iC d, .rsl 1 0 none (byf fun _ => 0), .rsl 1 wn none (byf wf), .rsl 4 mn none (mvC mf),
  .rsl 4 0 none (lvC (fun _ _ => 0) fun _ => false), .rsl 2 0 none (dtC fun _ _ => 0), .rsl 3 0 none (opC (fun _ => 0) (fun _ => 0) (fun _ => 0) fun _ _ _ => 0)]
theorem uE_cells (kind n a b c d : Int) (wn : Nat) (wf : Nat → Int) (mn : Nat) (mf : Nat → Nat → Int) : SV.agg (uE kind n a b c d wn wf mn mf).cells = enU kind n a b c d wn wf mn mf := rfl

theorem sp_sameU (kind n a b c d : Int) (wn : Nat) (wf : Nat → Int) (mn : Nat) (hm : mn ≤ 1000000) (mf : Nat → Nat → Int) : FSpec Try.prog 12 [enU kind n a b c d wn wf mn mf, enU kind n a b c d wn wf mn mf] [] (fun v ρ' => v = bV true ∧ ρ' = []) := by
  have h := sp_sameEntry (uE kind n a b c d wn wf mn mf) (uE kind n a b c d wn wf mn mf) ⟨hm, Nat.zero_le _, Nat.zero_le _, Nat.zero_le _, fun j hj => absurd hj (Nat.not_lt_zero _)⟩
  rw [uE_cells] at h
  refine h.mono fun v ρ' hp => ?_
  obtain ⟨⟨x, rfl, hx⟩, rfl⟩ := hp
  refine ⟨?_, rfl⟩
  rw [hx.2 ⟨fun _ _ => rfl, rfl, rfl, ⟨rfl, fun _ _ => ⟨rfl, rfl, rfl, rfl⟩⟩, ⟨rfl, fun _ _ => ⟨rfl, rfl, rfl, rfl⟩⟩, ⟨rfl, fun _ _ => ⟨rfl, rfl⟩⟩, ⟨rfl, fun _ _ => ⟨rfl, rfl, rfl, fun _ _ => ⟨rfl, rfl, rfl, rfl⟩⟩⟩⟩]

theorem sp_sameMovesT (n : Nat) (hn : n ≤ 1000000) (m : Nat → Nat → Int) : FSpec Try.prog 18 [.cv (.rsl 4 n none (mvC m)), .cv (.rsl 4 n none (mvC m))] [] (fun v ρ' => v = bV true ∧ ρ' = []) := by
  refine (sp_sameMoves n n hn m m).mono fun v ρ' hp => ?_
  obtain ⟨⟨x, rfl, hx⟩, rfl⟩ := hp
  exact ⟨by rw [hx.2 ⟨rfl, fun _ _ => ⟨rfl, rfl, rfl, rfl⟩⟩], rfl⟩

theorem uE_fit (kind n a b c d : Int) (wn : Nat) (wf : Nat → Int) (mn : Nat) (hm : mn ≤ 1000000) (mf : Nat → Nat → Int) : (uE kind n a b c d wn wf mn mf).Fit :=
  ⟨hm, Nat.zero_le _, Nat.zero_le _, Nat.zero_le _, fun j hj => absurd hj (Nat.not_lt_zero _)⟩
theorem EnEq.refl (e : En) : EnEq e e := ⟨fun _ _ => rfl, rfl, rfl, ⟨rfl, fun _ _ => ⟨rfl, rfl, rfl, rfl⟩⟩, ⟨rfl, fun _ _ => ⟨rfl, rfl, rfl, rfl⟩⟩, ⟨rfl, fun _ _ => ⟨rfl, rfl⟩⟩, ⟨rfl, fun _ _ => ⟨rfl, rfl, rfl, fun _ _ => ⟨rfl, rfl, rfl, rfl⟩⟩⟩⟩
end Go.Proofs.Ytoibipjahacdpaa

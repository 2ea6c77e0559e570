/- Where stubs lead, in plain words. -/
import Derived.Test.YtkllnfbhcfaijaaCellPure
import Derived.Test.YtkllnfbhcfaijaaLook
set_option linter.unusedVariables false
set_option linter.unusedSimpArgs false
namespace Sx
/-- Cells: where each is, how many bytes it has, which ones. -/
structure Net where
  n : Nat
  P : Nat → Int
  C : Nat → Int
  z : Nat → Nat
  F : Nat → Nat → Int
abbrev Net.row (N : Net) (i : Nat) : List CV := [.val (.int .i64 (N.P i)), .val (.int .i64 (N.C i)), .rsl 1 (N.z i) none (byf (N.F i))]
structure Net.Ok (N : Net) : Prop where
  n : N.n ≤ 1000
  b : ∀ i, Byt (N.F i)
  z : ∀ i, N.z i ≤ 1000
def Net.is (N : Net) (p c : Int) (i : Nat) : Bool := (N.P i == p) && (N.C i == c)
/-- What is told of a place. -/
structure Fl where
  p : Int
  c : Int
  k : ByteArray
  s : ByteArray
  v : ByteArray
  h : Int
  e : Int
abbrev Fl.V (r : Fl) : SV := .tup [.agg [.val (.int .i64 r.p), .val (.int .i64 r.c)], .agg [.val (.string r.k), .val (.string r.s), .val (.string r.v)], .cv (.val (.int .i64 r.h)), .cv (.val (.int .i64 r.e))]
abbrev noFl (e : Int) : Fl := ⟨0, 0, emB, emB, emB, 0, e⟩
/-- On from a place, as long as stubs stand there, so many times at most. -/
noncomputable def folR (N : Net) : Nat → Nat → Int → Int → Fl
  | 0, _, _, _ => noFl 1
  | m + 1, h, p, c =>
    if lookF (N.is p c) N.n < N.n then
      let R := rdF (N.z (lookF (N.is p c) N.n)) (N.F (lookF (N.is p c) N.n))
      if R.e ≠ 0 then noFl R.e else if R.kind = 0 then noFl 10 else if R.kind = 1 then ⟨p, c, R.k, R.s, R.v, h, 0⟩ else folR N m (h + 1) R.p R.c
    else noFl 10
/-- How an answer is: fine with its kind, or why not. -/
theorem rdF_ways (n : Nat) (f : Nat → Int) : (rdF n f).e ≠ 0 ∨ ((rdF n f).e = 0 ∧ ((rdF n f).kind = 0 ∨ (rdF n f).kind = 1 ∨ ((rdF n f).kind = 2))) := by
  rcases rdF_cases n f with ⟨h, _⟩ | ⟨h, _⟩ | ⟨_, _, h⟩ | ⟨_, _, _, h⟩ <;> rw [h]
  · exact .inr ⟨rfl, .inl rfl⟩
  · exact .inl (by decide)
  · exact .inr ⟨rfl, .inr (.inl rfl)⟩
  · exact .inr ⟨rfl, .inr (.inr rfl)⟩
end Sx

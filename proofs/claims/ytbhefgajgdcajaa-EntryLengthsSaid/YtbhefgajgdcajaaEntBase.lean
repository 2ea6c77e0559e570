/- Entries as the engine tells them. -/
import Derived.Test.YtbhefgajgdcajaaCode
import Derived.Test.YtbhefgajgdcajaaEntLaw
import Derived.Test.YtbhefgajgdcajaaEntAlias
set_option linter.unusedVariables false
set_option linter.unusedSimpArgs false
namespace Go.Proofs.Ytbhefgajgdcajaa
open Sx
set_option maxRecDepth 100000
abbrev iC (n : Int) : CV := .val (.int .i64 n)
abbrev iV (n : Int) : SV := .cv (.val (.int .i64 n))
abbrev bC (b : Bool) : CV := .val (.bool b)
abbrev bV (b : Bool) : SV := .cv (.val (.bool b))
abbrev lf (l : List Int) (j : Nat) : Int := l.getD j 0
abbrev lbC (l : List Int) : CV := .rsl 1 l.length none (byf (lf l))
abbrev inC (l : List Int) (j : Nat) : List CV := [iC (l.getD j 0)]
abbrev mvC (l : List Mv) (j : Nat) : List CV := [iC (l.getD j (0, 0, 0, 0)).1, iC (l.getD j (0, 0, 0, 0)).2.1, iC (l.getD j (0, 0, 0, 0)).2.2.1, iC (l.getD j (0, 0, 0, 0)).2.2.2]
abbrev lvC (l : List Lv) (j : Nat) : List CV := [iC (l.getD j (0, 0, 0, false)).1, iC (l.getD j (0, 0, 0, false)).2.1, iC (l.getD j (0, 0, 0, false)).2.2.1, bC (l.getD j (0, 0, 0, false)).2.2.2]
abbrev dtC (l : List Dt) (j : Nat) : List CV := [iC (l.getD j (0, 0)).1, iC (l.getD j (0, 0)).2]
abbrev opC (l : List Op) (j : Nat) : List CV := [iC (l.getD j (0, 0, [])).1, .rsl 4 (l.getD j (0, 0, [])).2.2.length none (mvC (l.getD j (0, 0, [])).2.2), iC (l.getD j (0, 0, [])).2.1]
abbrev mvS (l : List Mv) : CV := .rsl 4 l.length none (mvC l)
abbrev lvS (l : List Lv) : CV := .rsl 4 l.length none (lvC l)
abbrev dtS (l : List Dt) : CV := .rsl 2 l.length none (dtC l)
abbrev opS (l : List Op) : CV := .rsl 3 l.length none (opC l)
def Ent.cells (e : Ent) : List CV := [iC e.k, iC e.t, iC e.u, iC e.h, iC e.p, iC e.n, iC e.a, iC e.b, iC e.c, iC e.d, lbC e.o, lbC e.w, mvS e.m, lvS e.l, dtS e.y, opS e.q]
abbrev Ent.V (e : Ent) : SV := .agg e.cells
theorem lf_app (a b : List Int) (j : Nat) : lf (a ++ b) j = if j < a.length then lf a j else lf b (j - a.length) := by
  unfold lf
  rw [List.getD_eq_getElem?_getD, List.getElem?_append]
  split
  · rw [List.getD_eq_getElem?_getD]
  · rw [List.getD_eq_getElem?_getD]
theorem lf_drop (a : List Int) (n j : Nat) : lf (a.drop n) j = lf a (n + j) := by
  unfold lf
  rw [List.getD_eq_getElem?_getD, List.getElem?_drop, List.getD_eq_getElem?_getD]
theorem lf_take (a : List Int) (n j : Nat) (h : j < n) : lf (a.take n) j = lf a j := by
  unfold lf
  rw [List.getD_eq_getElem?_getD, List.getElem?_take, if_pos h, List.getD_eq_getElem?_getD]
theorem lf_byt {l : List Int} (h : byts l) : Byt (lf l) := fun j => by
  unfold lf
  rw [List.getD_eq_getElem?_getD]
  cases e : l[j]? with
  | none => exact ⟨Int.le_refl 0, by decide⟩
  | some x => exact h x (List.mem_of_getElem? e)
/-- A writer: what it has written. -/
abbrev wR (L : List Int) : List Res := [.cells [.slc 1 1 0 L.length none], .recs 1 L.length (byf (lf L))]
abbrev wP (L : List Int) : List Res := [.cells [.slc 2 1 0 L.length none], .gone, .recs 1 L.length (byf (lf L))]
end Go.Proofs.Ytbhefgajgdcajaa

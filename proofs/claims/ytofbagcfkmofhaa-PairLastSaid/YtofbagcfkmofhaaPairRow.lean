import Derived.Test.YtofbagcfkmofhaaPairAll
import Derived.Test.YtofbagcfkmofhaaSxTop
import Derived.Test.YtofbagcfkmofhaaRows
set_option linter.unusedVariables false
set_option linter.unusedSimpArgs false
namespace Go.Proofs.Ytofbagcfkmofhaa
open Sx Go.ChangeShapes Go.WideShapes Go.ChangeAt Go.RowKit

theorem Try.own : ownKnob Try.prog.godebug = none := by kernel_rfl
theorem Try.laidOut : laidOutB Try.prog = true := by kernel_rfl
theorem Try.cells33 : Try.prog.cellsOf 33 = 3 := by kernel_rfl
theorem Try.cells5 : Try.prog.cellsOf 5 = 1 := by kernel_rfl

/-- Three bytes a row. -/
def Bytes3 (W : World) (v : Value) : Prop := ∃ (n : Nat) (b : Nat → Nat → Int) (β : Env), Bytes b ∧ (∀ i, 1 ≤ i → β i = none) ∧ SV.Den β (.cv (.slc 0 3 0 n none)) v ∧ (Res.ro 3 n (bC b)).Sat (hpOf W) β (β 0) (fun _ => none)

theorem open_b3 {H : Type} {enc : TypeId × Value → H} {W : World} {v : Value} {d : DataW H} {p : List MemPlace} (hv : ∃ a len cap, v = .slice a len cap) (h : DataW.Trod enc Try.prog W 0 (fun _ => true) true 22 v d p) : Bytes3 W v := by
  obtain ⟨a0, len0, cap0, rfl⟩ := hv
  obtain ⟨fuel, hf⟩ := h
  rcases Go.Deep.open_slice Try.underlying22 hf with ⟨hcs, _⟩ | ⟨a, len, cap, m, n, D, Pl, hcs, _, hl, _, hm, _, hx⟩
  · have : (Value.slice a0 len0 cap0) = .slice none 0 0 := by simpa [Value.cells] using hcs
    rw [this]
    exact ⟨0, fun _ _ => 0, fun i => if i = 0 then some ⟨none, 0⟩ else none, fun _ _ => ⟨by simp, by simp⟩, fun i hi => if_neg (by omega), slc_denS_nil (by decide) rfl, ro_sat_nil (by decide) _ _⟩
  · have : (Value.slice a0 len0 cap0) = .slice (some a) len cap := by simpa [Value.cells] using hcs
    rw [this]
    rw [Try.cells33] at hx
    have hel : ∀ i, i < len → ∃ q : Int × Int × Int, W.cells? 0 (a.add (i * 3)) 3 = some [.int .u8 q.1, .int .u8 q.2.1, .int .u8 q.2.2] ∧ (0 ≤ q.1 ∧ q.1 ≤ 255) ∧ (0 ≤ q.2.1 ∧ q.2.1 ≤ 255) ∧ (0 ≤ q.2.2 ∧ q.2.2 ≤ 255) := by
      intro i hi
      have hi' : i < m := by rw [hm]; simp; omega
      obtain ⟨cs', h1, h2⟩ := hx i hi'
      obtain ⟨xs, k, _, _, hlen, hxl, hel⟩ := DataW.trod_array Try.underlying33 h2
      rw [Try.cells33] at hlen
      rw [Try.cells5] at hel
      match cs', hlen with
      | [x, y, z], _ =>
        have e0 := hel 0 (by omega)
        have e1 := hel 1 (by omega)
        have e2 := hel 2 (by omega)
        rw [List.getElem?_eq_getElem (by omega)] at e0 e1 e2
        simp only [Nat.zero_mul, Nat.one_mul, List.drop_zero, List.drop_succ_cons, List.take_succ_cons, List.take_zero] at e0 e1 e2
        obtain ⟨n0, q0, _, w0⟩ := DataW.trod_int Try.underlying5 e0
        obtain ⟨n1, q1, _, w1⟩ := DataW.trod_int Try.underlying5 e1
        obtain ⟨n2, q2, _, w2⟩ := DataW.trod_int Try.underlying5 e2
        simp only [List.cons.injEq, and_true] at q0 q1 q2
        have q2' : z = .int .u8 n2 := by simpa using q2
        subst q0; subst q1; subst q2'
        refine ⟨(n0, n1, n2), h1, ?_, ?_, ?_⟩
        all_goals
          first | (simp [Lit.wf, IntKind.min, IntKind.max, IntKind.signed, IntKind.bits] at w0 w1 w2; simp only; omega)
    obtain ⟨q, hq⟩ := Go.Deep.choose_lt hel
    refine ⟨len, fun i j => if i < len then (if j = 0 then (q i).1 else if j = 1 then (q i).2.1 else (q i).2.2) else 0, fun i => if i = 0 then some ⟨some a, cap * 3⟩ else none, fun i j => ?_, fun i hi => if_neg (by omega), slc_denS (by decide) hl rfl, ro_sat (by decide) hl (fun i => [.int .u8 (q i).1, .int .u8 (q i).2.1, .int .u8 (q i).2.2]) _ (fun i hi => (hq i hi).1) (fun i hi => ?_) _⟩
    · simp only
      split
      · rename_i hi
        have := hq i hi
        split
        · exact this.2.1
        · split
          · exact this.2.2.1
          · exact this.2.2.2
      · omega
    · simp only [bC, hi, if_true]
      exact ⟨⟨rfl, trivial⟩, ⟨rfl, trivial⟩, ⟨rfl, trivial⟩, trivial⟩

theorem pairAll_any {W : World} {v : Value} (h : Bytes3 W v) : Calls Try.prog 3 #[v] W fun e w' => e = .returned (.bool true) ∧ Below W.heap.size W w' := by
  obtain ⟨n, b, β, hb, h1, h2, h3⟩ := h
  refine top (vs := [v]) (s3 n b hb) (fun v ρ' hp => hp.1) h1 ⟨h2, trivial⟩ (fun i hi => ?_)
  have : i = 0 := by simpa using hi
  subst this; exact h3

end Go.Proofs.Ytofbagcfkmofhaa

/- From a row's arguments to a contract's, and from a contract to what a row wants. -/
import Derived.Test.YtbhefgajgdcajaaSxSimp
import Derived.ProofKit
import Derived.Deep.Slices
import Derived.OpenShut
set_option linter.unusedVariables false
set_option linter.unusedSimpArgs false
namespace Sx
open Go Go.RowKit

def hpOf (W : World) : Hp := fun b => W.heap[b]?

theorem hcell_hpOf (W : World) (a : Addr) : hcell (hpOf W) a = W.cell? a := by
  unfold hcell hpOf World.cell?
  rfl

theorem top {P : Program} {id : FuncId} {args : List SV} {ρ : List Res} {post : SV → List Res → Prop} (hs : FSpec P id args ρ post) (hp : ∀ v ρ', post v ρ' → v = .cv (.val (.bool true))) {W : World} {nm : Nat → Option Bd} {vs : List Value}
    (hβ : ∀ i, ρ.length ≤ i → nm i = none) (hd : SV.DenL ⟨nm, hpOf W⟩ args vs) (hsat : ∀ i, i < ρ.length → (getR ρ i).Sat ⟨hpOf W, hpOf W⟩ ⟨nm, hpOf W⟩ (nm i) (fun _ => none)) :
    Calls P id (List.toArray vs) W fun e w' => e = .returned (.bool true) ∧ Below W.heap.size W w' := by
  refine (hs.spec ⟨hpOf W, hpOf W⟩ W ⟨nm, hpOf W⟩ (fun _ _ => none) vs ⟨fun b o h => h, fun i b o h => (by cases h), fun _ _ _ _ h => absurd rfl h, fun _ _ h => absurd rfl h, fun i => ?_,
    fun _ _ h => h, fun _ h => .inl h, fun _ _ h => h, fun _ _ h => absurd rfl h⟩ hβ hd).mono ?_
  · by_cases hi : i < ρ.length
    · exact hsat i hi
    · rw [show getR ρ i = .gone by
        unfold getR
        rw [List.getD_eq_getElem?_getD, List.getElem?_eq_none (by omega)]; rfl]
      trivial
  · rintro e w' ⟨v, rv, ρ', β', h', rfl, hpost, hden, _, _, hrel, _, _, _, hext⟩
    rw [hp v ρ' hpost] at hden
    obtain ⟨rfl, _⟩ := hden
    refine ⟨rfl, hext.os, hext.tape, hext.output, hext.size, fun k hk => ?_⟩
    have h1 : W.heap[k]? = some W.heap[k] := Array.getElem?_eq_getElem hk
    rw [h1]
    exact hrel.frame k _ h1

/-- The naming of a statement's arguments: no names. -/
def env0 (W : World) : Env := ⟨fun _ => none, hpOf W⟩

theorem top0 {P : Program} {id : FuncId} {args : List SV} {post : SV → List Res → Prop} (hs : FSpec P id args [] post) (hp : ∀ v ρ', post v ρ' → v = .cv (.val (.bool true))) {W : World} {vs : List Value}
    (hd : SV.DenL (env0 W) args vs) : Calls P id (List.toArray vs) W fun e w' => e = .returned (.bool true) ∧ Below W.heap.size W w' :=
  top hs hp (fun _ _ => rfl) hd (fun i hi => by simp at hi)

/-- A slice of a statement's arguments. -/
theorem rsl_den {W : World} {a : Addr} {base sz len cap : Nat} (hsz : 0 < sz) (hl : len ≤ cap) (C : Nat → List Value) (f : Nat → List CV) (hC : ∀ i, i < len → W.cells? base (a.add (i * sz)) sz = some (C i))
    (hf : ∀ i, i < len → CV.DenL (env0 W) (f i) (C i)) : CV.Den (env0 W) (.rsl sz len none f) (.slice (some a) len cap) := by
  refine ⟨hsz, some a, cap, rfl, hl, fun m hm => (by cases hm), ?_⟩
  by_cases h0 : len = 0
  · exact .inl h0
  · refine .inr ⟨a, rfl, ?_, fun i hi => ⟨C i, (World.cells?_some (hC i hi)).2.1, hf i hi, fun j hj => ?_⟩⟩
    · have h1 := World.cells?_some (hC 0 (by omega))
      have h2 := h1.2.2 0 hsz
      have h3 : (C 0).length = sz := h1.2.1
      rw [List.getElem?_eq_getElem (by omega)] at h2
      cases hs : a.spot with
      | none => rfl
      | some s =>
        unfold World.cell? at h2
        split at h2
        · rw [if_pos (by simp [Addr.add, hs])] at h2; cases h2
        · cases h2
    · show hcell (hpOf W) _ = _
      rw [hcell_hpOf]
      have := (World.cells?_some (hC i hi)).2.2 j hj
      rw [Go.Deep.add_add] at this
      exact this

theorem rsl_den_nil {W : World} {sz : Nat} (hsz : 0 < sz) (f : Nat → List CV) : CV.Den (env0 W) (.rsl sz 0 none f) (.slice none 0 0) :=
  ⟨hsz, none, 0, rfl, Nat.le_refl _, fun m hm => (by cases hm), .inl rfl⟩

theorem CV.denL_val {β : Env} : ∀ {l : List Value}, (∀ v ∈ l, Plain v) → CV.DenL β (l.map .val) l
  | [], _ => trivial
  | v :: l, h => ⟨⟨rfl, h v (by simp)⟩, CV.denL_val fun x hx => h x (by simp [hx])⟩

end Sx

/- From a row's arguments to a contract's, and from a contract to what a row wants. -/
import Derived.Test.YtofbagcfkmofhaaSxSimp
import Derived.ProofKit
import Derived.Deep.Slices
import Derived.OpenShut
set_option linter.unusedVariables false
set_option linter.unusedSimpArgs false
namespace Sx
open Go Go.RowKit

def hpOf (W : World) : Hp := fun b => W.heap[b]?

theorem hcell_hpOf (W : World) (a : Addr) : hcell (hpOf W) a = W.cell? a := by
  unfold hcell hpOf World.cell?
  rfl

theorem top {P : Program} {id : FuncId} {args : List SV} {ρ : List Res} {post : SV → List Res → Prop} (hs : FSpec P id args ρ post) (hp : ∀ v ρ', post v ρ' → v = .cv (.val (.bool true))) {W : World} {β : Env} {vs : List Value}
    (hβ : ∀ i, ρ.length ≤ i → β i = none) (hd : SV.DenL β args vs) (hsat : ∀ i, i < ρ.length → (getR ρ i).Sat (hpOf W) β (β i) (fun _ => none)) :
    Calls P id (List.toArray vs) W fun e w' => e = .returned (.bool true) ∧ Below W.heap.size W w' := by
  refine (hs.spec (hpOf W) W β (fun _ _ => none) vs ⟨fun b o h => h, fun i b o h => (by cases h), fun _ _ _ _ h => absurd rfl h, fun _ _ h => absurd rfl h, fun i => ?_⟩ hβ hd).mono ?_
  · by_cases hi : i < ρ.length
    · exact hsat i hi
    · rw [show getR ρ i = .gone by
        unfold getR
        rw [List.getD_eq_getElem?_getD, List.getElem?_eq_none (by omega)]; rfl]
      trivial
  · rintro e w' ⟨v, rv, ρ', β', h', rfl, hpost, hden, _, _, hrel, _, _, _, hext⟩
    rw [hp v ρ' hpost] at hden
    obtain ⟨rfl, _⟩ := hden
    refine ⟨rfl, hext.os, hext.tape, hext.output, hext.size, fun k hk => ?_⟩
    have h1 : W.heap[k]? = some W.heap[k] := Array.getElem?_eq_getElem hk
    rw [h1]
    exact hrel.frame k _ h1

theorem CV.denL_val {β : Env} : ∀ {l : List Value}, (∀ v ∈ l, Plain v) → CV.DenL β (l.map .val) l
  | [], _ => trivial
  | v :: l, h => ⟨⟨rfl, h v (by simp)⟩, CV.denL_val fun x hx => h x (by simp [hx])⟩

/-- A row of records in old memory. -/
theorem ro_sat {W : World} {β : Env} {a : Addr} {base sz len cap : Nat} (hsz : 0 < sz) (hl : len ≤ cap) (C : Nat → List Value) (f : Nat → List CV) (hC : ∀ i, i < len → W.cells? base (a.add (i * sz)) sz = some (C i))
    (hf : ∀ i, i < len → CV.DenL β (f i) (C i)) (p : Hp) : (Res.ro sz len f).Sat (hpOf W) β (some ⟨some a, cap * sz⟩) p := by
  refine ⟨hsz, some a, cap * sz, rfl, Nat.mul_le_mul_right _ hl, ?_⟩
  by_cases h0 : len = 0
  · exact .inl h0
  · refine .inr ⟨a, rfl, ?_, fun i hi => ⟨C i, ?_, hf i hi, fun j hj => ?_⟩⟩
    · have h1 := World.cells?_some (hC 0 (by omega))
      have h2 := h1.2.2 0 hsz
      have h3 : (C 0).length = sz := h1.2.1
      rw [List.getElem?_eq_getElem (by omega)] at h2
      cases hs : a.spot with
      | none => rfl
      | some s =>
        unfold World.cell? at h2
        split at h2
        · rw [if_pos (by simp [Addr.add, hs])] at h2; cases h2
        · cases h2
    · exact (World.cells?_some (hC i hi)).2.1
    · rw [hcell_hpOf]
      have := (World.cells?_some (hC i hi)).2.2 j hj
      rw [Go.Deep.add_add] at this
      exact this

theorem slc_den {β : Env} {i sz len cap : Nat} {a : Addr} (hsz : 0 < sz) (hl : len ≤ cap) (hb : β i = some ⟨some a, cap * sz⟩) : CV.Den β (.slc i sz 0 len none) (.slice (some a) len cap) := by
  refine ⟨some a, cap * sz, hb, ?_, hsz, by simp, some a, ?_, fun _ => ⟨a, rfl, by simp [Addr.add]⟩⟩
  · rw [Nat.zero_add]; exact Nat.mul_le_mul_right _ hl
  · simp [Nat.mul_div_cancel _ hsz]

theorem slc_den_nil {β : Env} {i sz : Nat} (hsz : 0 < sz) (hb : β i = some ⟨none, 0⟩) : CV.Den β (.slc i sz 0 0 none) (.slice none 0 0) := by
  refine ⟨none, 0, hb, by simp, hsz, by simp, none, by simp, by simp⟩

theorem slc_denS {β : Env} {i sz len cap : Nat} {a : Addr} (hsz : 0 < sz) (hl : len ≤ cap) (hb : β i = some ⟨some a, cap * sz⟩) : SV.Den β (.cv (.slc i sz 0 len none)) (.slice (some a) len cap) := by
  simp only [SV.Den]; exact slc_den hsz hl hb
theorem slc_denS_nil {β : Env} {i sz : Nat} (hsz : 0 < sz) (hb : β i = some ⟨none, 0⟩) : SV.Den β (.cv (.slc i sz 0 0 none)) (.slice none 0 0) := by
  simp only [SV.Den]; exact slc_den_nil hsz hb

theorem ro_sat_nil {W : World} {β : Env} {sz : Nat} (hsz : 0 < sz) (f : Nat → List CV) (p : Hp) : (Res.ro sz 0 f).Sat (hpOf W) β (some ⟨none, 0⟩) p := ⟨hsz, none, 0, rfl, by simp, .inl rfl⟩

end Sx

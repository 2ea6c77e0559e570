/- Regions: whatever order the model draws, the formula over one order serves. -/
import Derived.Test.YtbhefgajgdcajaaSxReg3
set_option linter.unusedVariables false
set_option linter.unusedSimpArgs false
namespace Sx
open Go

def predsOf (ops : Array Oper) (i : Nat) : List Nat :=
  match ops[i]? with
  | some o => (o.after.toList.filter fun e => Region.binds .any e).map (·.on)
  | none => []

def allPreds (ops : Array Oper) : List (List Nat) := (List.range ops.size).map (predsOf ops)

def ancOf (ops : Array Oper) (i : Nat) : List Nat := (ancs (allPreds ops)).getD i []

theorem ancOf_spec {ops : Array Oper} {i x : Nat} (hi : i < ops.size) (hx : x ∈ ancOf ops i) : x ∈ predsOf ops i ∨ ∃ p ∈ predsOf ops i, p < i ∧ x ∈ ancOf ops p := by
  unfold ancOf at hx ⊢
  have := ancs_spec (allPreds ops) i (by simp [allPreds, hi]) x
  have hp : (allPreds ops).getD i [] = predsOf ops i := by
    simp [allPreds, hi]
  rw [hp] at this
  exact this hx

/-- Who has come up. -/
def Listed (listed : Array Bool) (i : Nat) : Prop := listed.getD i false = true

theorem mem_ready_any {ops : Array Oper} {listed : Array Bool} (hsz : listed.size = ops.size) {i : Nat} : i ∈ Region.ready .any ops listed ↔ i < ops.size ∧ ¬ Listed listed i ∧ ∀ p ∈ predsOf ops i, Listed listed p := by
  rw [mem_ready]
  constructor
  · rintro ⟨h1, o, ho, h2⟩
    have hlt : i < ops.size := (Array.getElem?_eq_some_iff.1 ho).1
    refine ⟨hlt, ?_, fun p hp => ?_⟩
    · unfold Listed
      rw [Array.getD_eq_getD_getElem?, Array.getElem?_eq_getElem (by omega)] at h1 ⊢
      simp at h1 ⊢
      exact h1
    · simp only [predsOf, ho, List.mem_map, List.mem_filter, Array.mem_toList_iff] at hp
      obtain ⟨e, ⟨he1, he2⟩, rfl⟩ := hp
      exact h2 e he1 he2
  · rintro ⟨hlt, h1, h2⟩
    refine ⟨?_, ops[i], Array.getElem?_eq_getElem hlt, fun e he hb => ?_⟩
    · unfold Listed at h1
      rw [Array.getD_eq_getD_getElem?, Array.getElem?_eq_getElem (by omega)] at h1 ⊢
      simp at h1 ⊢
      exact h1
    · refine h2 e.on ?_
      simp only [predsOf, Array.getElem?_eq_getElem hlt, List.mem_map, List.mem_filter, Array.mem_toList_iff]
      exact ⟨e, ⟨he, hb⟩, rfl⟩

theorem anc_listed {ops : Array Oper} {listed : Array Bool} (hdown : ∀ i, i < ops.size → Listed listed i → ∀ p ∈ predsOf ops i, Listed listed p) (hsz : listed.size = ops.size) :
    ∀ (i : Nat), i < ops.size → (∀ p ∈ predsOf ops i, Listed listed p) → ∀ x ∈ ancOf ops i, Listed listed x := by
  intro i
  induction i using Nat.strongRecOn with
  | _ i ih =>
    intro hi hp x hx
    rcases ancOf_spec hi hx with h | ⟨p, hp1, hp2, hp3⟩
    · exact hp x h
    · have hlt : p < ops.size := by omega
      exact ih p hp2 hlt (hdown p hlt (hp p hp1)) x hp3

def Topo (ops : Array Oper) : List SO → Prop
  | [] => True
  | o :: L => (∀ p ∈ predsOf ops o.idx, p ∉ (o :: L).map (·.idx)) ∧ Topo ops L

theorem Topo.remove {ops : Array Oper} {k : SO} {L2 : List SO} : ∀ {L1 : List SO}, Topo ops (L1 ++ k :: L2) → Topo ops (L1 ++ L2)
  | [], h => h.2
  | o :: L1, h => ⟨fun p hp hm => h.1 p hp (by
      obtain ⟨x, hx, e⟩ := List.mem_map.1 hm
      refine List.mem_map.2 ⟨x, ?_, e⟩
      rcases List.mem_cons.1 hx with rfl | hx
      · exact List.mem_cons_self
      · refine List.mem_cons_of_mem _ ?_
        rcases List.mem_append.1 hx with h | h
        · exact List.mem_append_left _ h
        · exact List.mem_append_right _ (List.mem_cons_of_mem _ h)), Topo.remove h.2⟩

/-- The standing facts of a region. -/
structure RegOk (P : Program) (ops : Array Oper) (n : Nat) (L : List SO) : Prop where
  mtch : ∀ o ∈ L, ∃ op, Match P ops n o op
  lt : ∀ o ∈ L, o.idx < ops.size
  anc : ∀ o ∈ L, o.anc = ancOf ops o.idx
  nodup : (L.map (·.idx)).Nodup
  topo : Topo ops L

theorem RegOk.remove {P : Program} {ops : Array Oper} {n : Nat} {k : SO} {L1 L2 : List SO} (h : RegOk P ops n (L1 ++ k :: L2)) : RegOk P ops n (L1 ++ L2) := by
  have hm : ∀ o ∈ L1 ++ L2, o ∈ L1 ++ k :: L2 := fun o ho => by
    rcases List.mem_append.1 ho with h | h
    · exact List.mem_append_left _ h
    · exact List.mem_append_right _ (List.mem_cons_of_mem _ h)
  refine ⟨fun o ho => h.mtch o (hm o ho), fun o ho => h.lt o (hm o ho), fun o ho => h.anc o (hm o ho), ?_, h.topo.remove⟩
  have := h.nodup
  simp only [List.map_append, List.map_cons] at this ⊢
  exact this.sublist (List.Sublist.append_left (List.sublist_cons_self _ _) _)

theorem region_main {P : Program} {hf : Fr} {nm nc n : Nat} {ops : Array Oper} {Q : Exit → Act → World → Prop} {K : FSt → Prop} {B : Env} {w0 : World} {d0 : List Deferred} (hN : nm + ops.size ≤ nc)
    (hin : ∀ i, i < ops.size → ∀ p ∈ predsOf ops i, p < ops.size)
    (hQ : ∀ a w, After P hf nm nc true ops.size n B w0 d0 [] [] K a w → Q .normal a w) :
    ∀ (m : Nat) (L : List SO) (listed : Array Bool) (a : Act) (w : World), L.length = m → RegOk P ops n L → listed.size = ops.size → (∀ i, i < ops.size → (Listed listed i ↔ i ∉ L.map (·.idx))) →
      (∀ i, i < ops.size → Listed listed i → ∀ p ∈ predsOf ops i, Listed listed p) → After P hf nm nc true ops.size n B w0 d0 L [] K a w → wpAny P .any ops Q m listed a w := by
  intro m
  induction m with
  | zero =>
    intro L listed a w hlen hok hsz hset hdown hA
    have hL : L = [] := List.length_eq_zero_iff.1 hlen
    subst hL
    refine wpAny_done ?_ (hQ a w hA) 0
    rw [List.eq_nil_iff_forall_not_mem]
    intro i hi
    obtain ⟨h1, h2, _⟩ := (mem_ready_any hsz).1 hi
    exact h2 ((hset i h1).2 (by simp))
  | succ m ih =>
    intro L listed a w hlen hok hsz hset hdown hA
    refine wpAny_all rfl ?_ ?_
    · -- the first one is ready
      match L, hlen with
      | o :: L, _ =>
        intro hnil
        have hlt := hok.lt o (by simp)
        have : o.idx ∈ Region.ready .any ops listed := (mem_ready_any hsz).2 ⟨hlt, fun hl => ((hset _ hlt).1 hl) (by simp), fun p hp => (hset p (hin _ hlt p hp)).2 (hok.topo.1 p hp)⟩
        rw [hnil] at this
        cases this
    · intro i hi
      obtain ⟨hlt, hnl, hpl⟩ := (mem_ready_any hsz).1 hi
      have hmem : i ∈ L.map (·.idx) := by
        by_cases hm : i ∈ L.map (·.idx)
        · exact hm
        · exact absurd ((hset i hlt).2 hm) hnl
      obtain ⟨k, hk, rfl⟩ := List.mem_map.1 hmem
      obtain ⟨L1, L2, rfl⟩ := List.append_of_mem hk
      have hanc : ∀ j ∈ L1, j.idx ∉ k.anc := fun j hj hja => by
        rw [hok.anc k (by simp)] at hja
        have hjl := anc_listed hdown hsz k.idx hlt hpl j.idx hja
        exact ((hset j.idx (hok.lt j (by simp [hj]))).1 hjl) (by simp only [List.map_append, List.mem_append]; exact .inl (List.mem_map.2 ⟨j, hj, rfl⟩))
      obtain ⟨⟨φ, β, h, hF, hfit, hrel, hfr, htop, hB⟩, hext, hdef⟩ := hA
      have hhead := hF.bubble rfl hanc
      obtain ⟨op, hm⟩ := hok.mtch k (by simp)
      have hnd := hok.nodup
      have hne : ∀ o ∈ L1 ++ L2, o.idx < ops.size ∧ o.idx ≠ k.idx := fun o ho => by
        refine ⟨hok.remove.lt o ho, fun e => ?_⟩
        simp only [List.map_append, List.map_cons] at hnd
        rw [List.nodup_append] at hnd
        rcases List.mem_append.1 ho with h | h
        · exact hnd.2.2 o.idx (List.mem_map.2 ⟨o, h, rfl⟩) k.idx (by simp) e
        · have h2 := hnd.2.1
          rw [List.nodup_cons] at h2
          exact h2.1 (e ▸ List.mem_map.2 ⟨o, h, rfl⟩)
      have hfr' : Fresh nm nc β (k :: (L1 ++ L2)) := fun o ho => hfr o (by
        rcases List.mem_cons.1 ho with rfl | ho
        · simp
        · rcases List.mem_append.1 ho with h | h
          · exact List.mem_append_left _ h
          · exact List.mem_append_right _ (List.mem_cons_of_mem _ h))
      have hop := exec_head (Q := Q) hm hN hlt hne hhead hfit hrel hfr' htop hB hext
      refine wpOp_mono (fun a' w' hA' => ?_) hop
      rw [hdef] at hA'
      refine ih (L1 ++ L2) _ a' w' (by simp at hlen ⊢; omega) hok.remove (by simp [hsz]) (fun j hj => ?_) (fun j hj hjl p hp => ?_) hA'
      · unfold Listed
        by_cases hjk : j = k.idx
        · subst hjk
          constructor
          · intro _ hm'
            obtain ⟨o, ho, hoe⟩ := List.mem_map.1 hm'
            exact (hne o ho).2 hoe
          · intro _
            have : k.idx < listed.size := by omega
            simp [this]
        · rw [show (listed.setIfInBounds k.idx true).getD j false = listed.getD j false by simp [Array.getElem?_setIfInBounds_ne (Ne.symm hjk)]]
          have := hset j hj
          unfold Listed at this
          rw [this]
          simp only [List.map_append, List.map_cons, List.mem_append, List.mem_cons, hjk, false_or]
      · have keep : ∀ x, Listed listed x → Listed (listed.setIfInBounds k.idx true) x := fun x hx => getD_set_true hx
        by_cases hjk : j = k.idx
        · subst hjk; exact keep p (hpl p hp)
        · unfold Listed at hjl
          rw [show (listed.setIfInBounds k.idx true).getD j false = listed.getD j false by simp [Array.getElem?_setIfInBounds_ne (Ne.symm hjk)]] at hjl
          exact keep p (hdown j hj hjl p hp)

end Sx

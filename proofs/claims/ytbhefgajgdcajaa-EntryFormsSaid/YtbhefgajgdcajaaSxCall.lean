/- A call met by a contract. -/
import Derived.Test.YtbhefgajgdcajaaSxSpec
set_option linter.unusedVariables false
set_option linter.unusedSimpArgs false
namespace Sx
open Go

/-- The caller's name for each of the callee's. -/
def muOf (ns : List Nat) (n : Nat) (j : Nat) : Option Nat := if j < ns.length then some (ns.getD j 0) else some (n + (j - ns.length))

/-- The callee's name for each of the caller's. -/
def nuOf (ns : List Nat) (i : Nat) : Option Nat := ns.idxOf? i

def updGiven (ns : List Nat) (n : Nat) (ρ0 ρ' : List Res) : List (Nat × Res) :=
  ((List.range ρ0.length).filter fun j => owned (getR ρ0 j)).map fun j => (ns.getD j 0, (getR ρ' j).ren (muOf ns n))

def updNew (ns : List Nat) (n : Nat) (ρ0 ρ' : List Res) : List (Nat × Res) :=
  (List.range (ρ'.length - ρ0.length)).map fun t => (n + t, (getR ρ' (ρ0.length + t)).ren (muOf ns n))

theorem upds_append {res : Nat → Res} : ∀ (a b : List (Nat × Res)), upds res (a ++ b) = upds (upds res a) b
  | [], _ => rfl
  | (i, r) :: a, b => upds_append (res := up res i r) a b

/-- Where the written names are told apart, each holds what was written. -/
theorem upds_get {res : Nat → Res} {x : Nat} {r : Res} : ∀ {l : List (Nat × Res)}, (x, r) ∈ l → (∀ r', (x, r') ∈ l → r' = r) → upds res l x = r
  | [], h, _ => by cases h
  | (i, q) :: l, h, hu => by
    simp only [upds]
    by_cases hx : x ∈ l.map (·.1)
    · obtain ⟨p, hp, hpe⟩ := List.mem_map.1 hx
      obtain ⟨px, pr⟩ := p
      simp at hpe; subst hpe
      have := hu pr (List.mem_cons_of_mem _ hp)
      subst this
      exact upds_get hp (fun r' hr' => hu r' (List.mem_cons_of_mem _ hr'))
    · rw [upds_not hx]
      rcases List.mem_cons.1 h with h | h
      · simp only [Prod.mk.injEq] at h
        obtain ⟨rfl, rfl⟩ := h
        exact up_same _ _ _
      · exact absurd (List.mem_map.2 ⟨_, h, rfl⟩) hx

theorem CallP.of_spec {P : Program} {hf : Fr} {id : FuncId} {fn : Func} {args0 : List SV} {ρ0 : List Res} {post : SV → List Res → Prop} (hs : Spec P id args0 ρ0 post)
    (hfn : P.funcs[id]? = some fn) (hnm : (fn.name == "runtime.NumGoroutine") = false) (hbd : fn.body.isNone = false)
    {a b : List CV} {args : List SV} {res : Nat → Res} {n : Nat} (ns fp : List Nat) (hns : ∀ i ∈ ns, i ∈ fp) {K : SV → List (Nat × Res) → Prop} (hlen : ns.length = ρ0.length)
    (hargs : ∀ (w : World) (β βc : Env) (h : Nat → Hp) (res' : Nat → Res) (vs : List Value), Rel hf w β res' h → (∀ i ∈ fp, res' i = res i) → Env.via β βc (nuOf ns) → SV.DenL β (a.map .cv ++ args ++ b.map .cv) vs → SV.DenL βc args0 vs)
    (hfit : ∀ j, j < ρ0.length → fit (nuOf ns) (getR ρ0 j) (res (ns.getD j 0)))
    (hdis : ∀ j, j < ρ0.length → owned (getR ρ0 j) = true → ∀ j', j' < ρ0.length → j' ≠ j → ns.getD j' 0 ≠ ns.getD j 0)
    (hlow : ∀ i ∈ ns, i < n)
    (hK : ∀ v ρ', post v ρ' → K (v.ren (muOf ns n)) (updGiven ns n ρ0 ρ' ++ updNew ns n ρ0 ρ')) :
    CallP P hf (.cv (.fn (.func id) a b)) args res n fp K := by
  intro res' w β h fv vs hres hrel hfresh hfv hvs
  obtain ⟨fs, cs, rfl, hda, hdb⟩ := hfv
  refine ⟨id, fs, cs, fn, rfl, hfn, hnm, hbd, ?_⟩
  -- the callee's state
  obtain ⟨k, hk⟩ : ∃ k, k = ρ0.length := ⟨_, rfl⟩
  rw [← hk] at hlen hfit hdis
  have hnsmem : ∀ j, j < k → ns.getD j 0 ∈ ns := fun j hj => by
    rw [List.getD_eq_getElem?_getD, List.getElem?_eq_getElem (by omega)]
    exact List.getElem_mem _
  let G : Nat → Prop := fun i => ∃ j, j < k ∧ owned (getR ρ0 j) = true ∧ ns.getD j 0 = i
  let βc : Env := ⟨fun j => if j < k then β (ns.getD j 0) else none, β.mem⟩
  let hfc : Fr := ⟨frameOf (uni hf.hp β.mem) h G, β.mem⟩
  let hc : Nat → Hp := fun j => if j < k ∧ owned (getR ρ0 j) = true then h (ns.getD j 0) else fun _ => none
  have hvia : Env.via β βc (nuOf ns) := by
    refine ⟨?_, fun _ _ hb => hb⟩
    intro i j bd hn hb
    unfold nuOf at hn
    have hj : j < ns.length ∧ ns.getD j 0 = i := by
      rw [List.idxOf?, List.findIdx?_eq_some_iff_getElem] at hn
      obtain ⟨hlt, heq, _⟩ := hn
      refine ⟨hlt, ?_⟩
      rw [List.getD_eq_getElem?_getD, List.getElem?_eq_getElem hlt]
      simpa using heq
    show (if j < k then β (ns.getD j 0) else none) = _
    rw [if_pos (by omega), hj.2]; exact hb
  have hrelc : Rel hfc w βc (getR ρ0) hc := by
    refine ⟨fun b' o hb => ?_, fun j b' o hb => ?_, fun j j' b' hjj hb => ?_, fun j b' hb => ?_, fun j => ?_, fun _ _ hb => hb, fun b' hb => .inl hb, hrel.fzn.sub, fun j b' hb => ?_⟩
    · rcases frame_some hb with h1 | ⟨i, _, h1⟩
      · exact uni_some hrel h1
      · exact hrel.sub i _ _ h1
    · simp only [hc] at hb
      split at hb
      · exact hrel.sub _ _ _ hb
      · cases hb
    · simp only [hc] at hb ⊢
      split at hb
      · rename_i h1
        split
        · rename_i h2
          exact hrel.disj _ _ b' (hdis j' h2.1 h2.2 j h1.1 hjj) hb
        · rfl
      · exact absurd rfl hb
    · simp only [hc] at hb
      split at hb
      · rename_i h1
        exact frame_none hrel (i := ns.getD j 0) ⟨j, h1.1, h1.2, rfl⟩ hb
      · exact absurd rfl hb
    · by_cases hj : j < k
      · have hfj := hfit j hj
        have hsj := hrel.sat (ns.getD j 0)
        rw [hres _ (hns _ (hnsmem j hj))] at hsj
        have hβ : βc j = β (ns.getD j 0) := if_pos hj
        rw [hβ]
        by_cases ho : owned (getR ρ0 j) = true
        · simp only [hc, hj, ho, and_self, if_true]
          exact fit_sat hvia hfj ho hsj _
        · simp only [hc, hj, ho, and_false, if_false]
          cases hr0 : getR ρ0 j with
          | gone => trivial
          | ro sz m g =>
            rw [hr0] at hfj
            refine lend_sat hvia hfj hsj (fun _ _ hb => frame_hf (uni_hf hb)) (fun _ _ hb => frame_hf (uni_mem hrel hb)) (fun hoR b' o hb => frame_own hrel (fun hG => ?_) hb)
            obtain ⟨j', hj', ho', he⟩ := hG
            have : j' ≠ j := fun e => by subst e; rw [hr0] at ho'; cases ho'
            exact hdis j' hj' ho' j hj (Ne.symm this) he.symm
          | frz sz m g =>
            rw [hr0] at hfj
            exact fit_frz hvia hfj hsj
          | _ => rw [hr0] at ho; simp [owned] at ho
      · have : getR ρ0 j = .gone := by
          unfold getR
          rw [List.getD_eq_getElem?_getD, List.getElem?_eq_none (by omega)]; rfl
        rw [this]; trivial
    · simp only [hc] at hb
      split at hb
      · exact hrel.fzn.own _ _ hb
      · exact absurd rfl hb
  have hargsd : SV.DenL βc args0 (fs ++ vs ++ cs) := by
    refine hargs w β βc h res' _ hrel hres hvia ?_
    have app : ∀ (l : List SV) (xs : List Value) (m : List SV) (ys : List Value), SV.DenL β l xs → SV.DenL β m ys → SV.DenL β (l ++ m) (xs ++ ys) := by
      intro l
      induction l with
      | nil => intro xs m ys h1 h2; cases xs with
        | nil => exact h2
        | cons _ _ => exact h1.elim
      | cons c l ih => intro xs m ys h1 h2; cases xs with
        | nil => exact h1.elim
        | cons x xs => exact ⟨h1.1, ih xs m ys h1.2 h2⟩
    have cvl : ∀ (l : List CV) (xs : List Value), CV.DenL β l xs → SV.DenL β (l.map .cv) xs := by
      intro l
      induction l with
      | nil => intro xs h1; cases xs with
        | nil => trivial
        | cons _ _ => exact h1.elim
      | cons c l ih => intro xs h1; cases xs with
        | nil => exact h1.elim
        | cons x xs => exact ⟨h1.1, ih xs h1.2⟩
    exact app _ _ _ _ (app _ _ _ _ (cvl _ _ hda) hvs) (cvl _ _ hdb)
  refine (hs hfc w βc hc _ hrelc (fun i hi => if_neg (by omega)) hargsd).mono ?_
  rintro e w' ⟨v, rv, ρ', β', h', rfl, hpost, hden, hkeep, hnone, hrel', hl1, hl2, hro, hext⟩
  -- back in the caller's state
  rw [← hk] at hkeep hl1 hl2 hro
  obtain ⟨m, hm⟩ : ∃ m, m = ρ'.length - k := ⟨_, rfl⟩
  have hm8 : m ≤ 8 := by omega
  let β2 : Env := ⟨fun i => if n ≤ i ∧ i < n + m then β' (k + (i - n)) else β i, β'.mem⟩
  have hβlow : ∀ i, ¬ (n ≤ i ∧ i < n + m) → β2 i = β i := fun i hi => if_neg hi
  have hle2 : Env.le β β2 := by
    refine ⟨fun i bd hb => ?_, fun b o hb => hrel'.fzn.old b o hb⟩
    by_cases hi : n ≤ i ∧ i < n + m
    · have := hfresh (i - n) (by omega)
      rw [show n + (i - n) = i by omega, hb] at this
      cases this
    · rw [hβlow i hi]; exact hb
  have hvia2 : Env.via β' β2 (muOf ns n) := by
    refine ⟨?_, fun _ _ hb => hb⟩
    intro j i bd hn hb
    unfold muOf at hn
    split at hn
    · rename_i hj
      simp only [Option.some.injEq] at hn
      subst hn
      have hlt := hlow _ (hnsmem j (by omega))
      rw [hβlow _ (by omega)]
      have := hkeep j (by omega)
      rw [hb] at this
      have hβ : βc j = β (ns.getD j 0) := if_pos (by omega)
      rw [← hβ, ← this]
    · rename_i hj
      simp only [Option.some.injEq] at hn
      subst hn
      show (if n ≤ n + (j - ns.length) ∧ n + (j - ns.length) < n + m then β' (k + (n + (j - ns.length) - n)) else β (n + (j - ns.length))) = _
      by_cases hlt : j < ρ'.length
      · rw [if_pos (by omega), show k + (n + (j - ns.length) - n) = j by omega]; exact hb
      · rw [hnone j (by omega)] at hb; cases hb
  let J : Nat → Nat → Prop := fun i j => (j < k ∧ owned (getR ρ0 j) = true ∧ ns.getD j 0 = i) ∨ (k ≤ j ∧ j < ρ'.length ∧ i = n + (j - k))
  have hJ1 : ∀ {i j j'}, J i j → J i j' → j = j' := by
    intro i j j' h1 h2
    rcases h1 with ⟨a1, a2, a3⟩ | ⟨a1, a2, a3⟩ <;> rcases h2 with ⟨b1, b2, b3⟩ | ⟨b1, b2, b3⟩
    · by_cases e : j = j'
      · exact e
      · exact absurd (a3.trans b3.symm) (hdis j' b1 b2 j a1 e)
    · have := hlow _ (hnsmem j (by omega)); omega
    · have := hlow _ (hnsmem j' (by omega)); omega
    · omega
  have hJ2 : ∀ {i i' j}, J i j → J i' j → i = i' := by
    intro i i' j h1 h2
    rcases h1 with ⟨a1, a2, a3⟩ | ⟨a1, a2, a3⟩ <;> rcases h2 with ⟨b1, b2, b3⟩ | ⟨b1, b2, b3⟩
    · exact a3.symm.trans b3
    · omega
    · omega
    · omega
  have hJβ : ∀ {i j}, J i j → β2 i = β' j := by
    intro i j h1
    rcases h1 with ⟨a1, a2, a3⟩ | ⟨a1, a2, a3⟩
    · have hlt := hlow _ (hnsmem j (by omega))
      subst a3
      rw [hβlow _ (by omega), hkeep j a1]
      exact (if_pos a1).symm
    · subst a3
      show (if n ≤ n + (j - k) ∧ n + (j - k) < n + m then β' (k + (n + (j - k) - n)) else β (n + (j - k))) = _
      rw [if_pos (by omega), show k + (n + (j - k) - n) = j by omega]
  have hJro : ∀ {i j}, J i j → isRo (getR ρ' j) = false := by
    intro i j h1
    rcases h1 with ⟨a1, a2, a3⟩ | ⟨a1, a2, a3⟩
    · exact hro j (by omega) (.inr a2)
    · exact hro j a2 (.inl (by omega))
  have hJnG : ∀ {i}, (¬ ∃ j, J i j) → ¬ G i := fun {i} hn ⟨j, hj⟩ => hn ⟨j, .inl hj⟩
  open Classical in
  let h2 : Nat → Hp := fun i => if hex : ∃ j, J i j then h' (Classical.choose hex) else h i
  have hh2 : ∀ {i j}, J i j → h2 i = h' j := by
    intro i j hij
    have hex : ∃ j, J i j := ⟨j, hij⟩
    show (if hex : ∃ j, J i j then h' (Classical.choose hex) else h i) = _
    rw [dif_pos hex, hJ1 (Classical.choose_spec hex) hij]
  have hh2n : ∀ {i}, (¬ ∃ j, J i j) → h2 i = h i := fun {i} hn => dif_neg hn
  have hupdmem : ∀ {i j}, J i j → (i, (getR ρ' j).ren (muOf ns n)) ∈ updGiven ns n ρ0 ρ' ++ updNew ns n ρ0 ρ' := by
    intro i j h1
    rcases h1 with ⟨a1, a2, a3⟩ | ⟨a1, a2, a3⟩
    · refine List.mem_append_left _ (List.mem_map.2 ⟨j, ?_, by rw [a3]⟩)
      rw [List.mem_filter, List.mem_range]
      exact ⟨by omega, a2⟩
    · refine List.mem_append_right _ (List.mem_map.2 ⟨j - k, ?_, ?_⟩)
      · rw [List.mem_range]; omega
      · rw [← hk, show k + (j - k) = j by omega, a3]
  have hupdinv : ∀ {i r}, (i, r) ∈ updGiven ns n ρ0 ρ' ++ updNew ns n ρ0 ρ' → ∃ j, J i j ∧ r = (getR ρ' j).ren (muOf ns n) := by
    intro i r h1
    rcases List.mem_append.1 h1 with h1 | h1
    · obtain ⟨j, hj, he⟩ := List.mem_map.1 h1
      rw [List.mem_filter, List.mem_range] at hj
      simp only [Prod.mk.injEq] at he
      exact ⟨j, .inl ⟨by omega, hj.2, he.1⟩, he.2.symm⟩
    · obtain ⟨t, ht, he⟩ := List.mem_map.1 h1
      rw [List.mem_range] at ht
      simp only [Prod.mk.injEq] at he
      refine ⟨k + t, .inr ⟨by omega, by omega, by omega⟩, ?_⟩
      rw [← he.2, hk]
  have hres2 : ∀ {i j}, J i j → upds res' (updGiven ns n ρ0 ρ' ++ updNew ns n ρ0 ρ') i = (getR ρ' j).ren (muOf ns n) := by
    intro i j hij
    refine upds_get (hupdmem hij) (fun r' hr' => ?_)
    obtain ⟨j', hj', rfl⟩ := hupdinv hr'
    rw [hJ1 hij hj']
  have hres2n : ∀ {i}, (¬ ∃ j, J i j) → upds res' (updGiven ns n ρ0 ρ' ++ updNew ns n ρ0 ρ') i = res' i := by
    intro i hn
    refine upds_not fun hm' => ?_
    obtain ⟨p, hp, rfl⟩ := List.mem_map.1 hm'
    obtain ⟨j, hj, _⟩ := hupdinv (i := p.1) (r := p.2) hp
    exact hn ⟨j, hj⟩
  have hfree : ∀ {i j : Nat}, ¬ G i → ∀ b, h' j b ≠ none → h i b = none := by
    intro i j hG b hb
    have := hrel'.apart j b hb
    cases hq : h i b with
    | none => rfl
    | some o =>
      have h9 : hfc.hp b = some o := frame_own hrel hG hq
      rw [h9] at this; cases this
  refine ⟨v.ren (muOf ns n), rv, _, β2, h2, rfl, hK v ρ' hpost, SV.den_ren hvia2 _ _ hden, hle2, fun i hi => hβlow i (by omega), ?_, ?_, hext⟩
  · have hfz : ∀ b', hf.hp b' ≠ none → hfc.hp b' ≠ none := fun b' hb => by
      cases hq : hf.hp b' with
      | none => exact absurd hq hb
      | some o => show frameOf (uni hf.hp β.mem) h G b' ≠ none; rw [frame_hf (uni_hf hq)]; simp
    refine ⟨fun b' o hb => hrel'.frame _ _ (frame_hf (uni_hf hb)), fun i b' o hb => ?_, fun i i' b' hii hb => ?_, fun i b' hb => ?_, fun i => ?_, fun b' o hb => hrel'.fzn.old _ _ (hrel.fzn.old _ _ hb), fun b' hb => ?_, hrel'.fzn.sub, fun i b' hb => ?_⟩
    · by_cases hex : ∃ j, J i j
      · obtain ⟨j, hj⟩ := hex
        rw [hh2 hj] at hb
        exact hrel'.sub j _ _ hb
      · rw [hh2n hex] at hb
        exact hrel'.frame _ _ (frame_own hrel (hJnG hex) hb)
    · by_cases hex : ∃ j, J i j
      · obtain ⟨j, hj⟩ := hex
        rw [hh2 hj] at hb
        by_cases hex' : ∃ j, J i' j
        · obtain ⟨j', hj'⟩ := hex'
          rw [hh2 hj']
          exact hrel'.disj j j' b' (fun e => hii (hJ2 hj (e ▸ hj'))) hb
        · rw [hh2n hex']
          exact hfree (hJnG hex') b' hb
      · rw [hh2n hex] at hb
        by_cases hex' : ∃ j, J i' j
        · obtain ⟨j', hj'⟩ := hex'
          rw [hh2 hj']
          cases hq : h' j' b' with
          | none => rfl
          | some o => exact absurd (hfree (hJnG hex) b' (by rw [hq]; simp)) hb
        · rw [hh2n hex']
          exact hrel.disj i i' b' hii hb
    · by_cases hex : ∃ j, J i j
      · obtain ⟨j, hj⟩ := hex
        rw [hh2 hj] at hb
        have := hrel'.apart j b' hb
        cases hq : hf b' with
        | none => rfl
        | some o =>
          have h9 : hfc.hp b' = some o := frame_hf (uni_hf hq)
          rw [h9] at this; cases this
      · rw [hh2n hex] at hb
        exact hrel.apart i b' hb
    · by_cases hex : ∃ j, J i j
      · obtain ⟨j, hj⟩ := hex
        rw [hh2 hj, hres2 hj, hJβ hj]
        refine Res.sat_ren hvia2 (fun sz m' f he => ?_) (hrel'.sat j)
        have := hJro hj
        rw [he] at this
        cases this
      · rw [hh2n hex, hres2n hex]
        have hb2 : β2 i = β i := hβlow i (fun hi => hex ⟨k + (i - n), .inr ⟨by omega, by omega, by omega⟩⟩)
        rw [hb2]
        exact Res.sat_le hle2 (hrel.sat i)
    · rcases hrel'.fzn.new b' hb with h9 | h9
      · exact hrel.fzn.new b' h9
      · right
        cases hq : hf.hp b' with
        | none => rfl
        | some o => exact absurd h9 (hfz b' (by rw [hq]; simp))
    · by_cases hex : ∃ j, J i j
      · obtain ⟨j, hj⟩ := hex
        rw [hh2 hj] at hb
        exact hrel'.fzn.own j b' hb
      · rw [hh2n hex] at hb
        show β'.mem b' = none
        cases hq : β'.mem b' with
        | none => rfl
        | some o =>
          rcases hrel'.fzn.new b' (by rw [hq]; simp) with h9 | h9
          · exact absurd (hrel.fzn.own i b' hb) h9
          · cases hq2 : h i b' with
            | none => exact absurd hq2 hb
            | some o2 =>
              have h10 : hfc.hp b' = some o2 := frame_own hrel (hJnG hex) hq2
              rw [h10] at h9; cases h9
  · intro p hp
    obtain ⟨j, hj, _⟩ := hupdinv (i := p.1) (r := p.2) hp
    rcases hj with ⟨a1, a2, a3⟩ | ⟨a1, a2, a3⟩
    · exact List.mem_append_left _ (hns _ (a3 ▸ hnsmem j a1))
    · refine List.mem_append_right _ ?_
      rw [List.mem_range'_1]
      omega

end Sx

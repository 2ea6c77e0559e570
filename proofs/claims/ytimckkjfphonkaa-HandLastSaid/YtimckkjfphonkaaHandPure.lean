/- A cache with a hand that goes round, in plain words. -/
import Derived.Test.YtimckkjfphonkaaLook
set_option linter.unusedVariables false
set_option linter.unusedSimpArgs false
namespace Sx

/-- A place: its key, its value, whether it has one, its bit, its pins. -/
structure Pl where
  k : Int
  v : ByteArray
  has : Bool
  bit : Bool
  pins : Nat

def noPl : Pl := ⟨0, .mk #[], false, false, 0⟩
def freshPl (k : Int) (v : ByteArray) : Pl := ⟨k, v, true, true, 0⟩

def upP (f : Nat → Pl) (i : Nat) (p : Pl) : Nat → Pl := fun j => if j = i then p else f j
theorem upP_same (f : Nat → Pl) (i : Nat) (p : Pl) : upP f i p i = p := by simp [upP]
theorem upP_ne (f : Nat → Pl) {i j : Nat} (p : Pl) (h : j ≠ i) : upP f i p j = f j := by simp [upP, h]

def isK (f : Nat → Pl) (k : Int) (i : Nat) : Bool := (f i).has && ((f i).k == k)
def isFree (f : Nat → Pl) (i : Nat) : Bool := !(f i).has
def isLoose (f : Nat → Pl) (i : Nat) : Bool := (f i).pins == 0
/-- May the hand rest here? -/
def rests (f : Nat → Pl) (i : Nat) : Bool := (f i).pins == 0 && !(f i).bit
/-- The hand has gone by. -/
def passed (f : Nat → Pl) (i : Nat) : Nat → Pl := upP f i { f i with bit := (f i).bit && decide ((f i).pins > 0) }

/-- Where the hand comes to rest, and what it leaves. -/
def turnR (n : Nat) : Nat → Nat → (Nat → Pl) → Nat × (Nat → Pl)
  | 0, at', f => (at', f)
  | m + 1, at', f => if rests f at' = true then (at', f) else turnR n m ((at' + 1) % n) (passed f at')
/-- Does it come to rest in so many steps? -/
def stops (n : Nat) : Nat → Nat → (Nat → Pl) → Prop
  | 0, _, _ => False
  | m + 1, at', f => rests f at' = true ∨ stops n m ((at' + 1) % n) (passed f at')

theorem passed_pins (f : Nat → Pl) (i j : Nat) : (passed f i j).pins = (f j).pins := by
  unfold passed upP
  split
  · rename_i h; rw [h]
  · rfl
theorem passed_bit (f : Nat → Pl) (i j : Nat) (h : (f j).bit = false) : (passed f i j).bit = false := by
  unfold passed upP
  split
  · rename_i e; rw [← e, h]; rfl
  · exact h

/-- Steps from one place to another. -/
def far (n a i : Nat) : Nat := (i + n - a) % n

theorem far_zero {n a i : Nat} (ha : a < n) (hi : i < n) (h : far n a i = 0) : a = i := by
  unfold far at h
  by_cases h1 : a ≤ i
  · rw [show i + n - a = n + (i - a) by omega, Nat.add_mod_left, Nat.mod_eq_of_lt (by omega)] at h; omega
  · rw [Nat.mod_eq_of_lt (by omega)] at h; omega
theorem far_next {n a i d : Nat} (ha : a < n) (hi : i < n) (h : far n a i = d + 1) : far n ((a + 1) % n) i = d := by
  unfold far at *
  by_cases h1 : a ≤ i
  · rw [show i + n - a = n + (i - a) by omega, Nat.add_mod_left, Nat.mod_eq_of_lt (by omega)] at h
    rw [Nat.mod_eq_of_lt (show a + 1 < n by omega), show i + n - (a + 1) = n + (i - a - 1) by omega, Nat.add_mod_left, Nat.mod_eq_of_lt (by omega)]; omega
  · rw [Nat.mod_eq_of_lt (by omega)] at h
    by_cases h2 : a + 1 = n
    · rw [h2, Nat.mod_self, show i + n - 0 = n + i by omega, Nat.add_mod_left, Nat.mod_eq_of_lt hi]; omega
    · rw [Nat.mod_eq_of_lt (show a + 1 < n by omega), Nat.mod_eq_of_lt (by omega)]; omega
theorem far_lt {n a i : Nat} (hn : 0 < n) : far n a i < n := Nat.mod_lt _ hn
theorem far_wrap {n i : Nat} (hi : i < n) : far n ((i + 1) % n) i = n - 1 := by
  unfold far
  by_cases h : i + 1 = n
  · rw [h, Nat.mod_self, show i + n - 0 = n + i by omega, Nat.add_mod_left, Nat.mod_eq_of_lt hi]; omega
  · rw [Nat.mod_eq_of_lt (show i + 1 < n by omega), show i + n - (i + 1) = n - 1 by omega, Nat.mod_eq_of_lt (by omega)]

theorem stops_mono {n : Nat} : ∀ (m : Nat) {m' at' : Nat} {f : Nat → Pl}, m ≤ m' → stops n m at' f → stops n m' at' f
  | 0, _, _, _, _, h => h.elim
  | m + 1, 0, _, _, hm, _ => absurd hm (by omega)
  | m + 1, m' + 1, _, _, hm, h => by
    rcases h with h | h
    · exact .inl h
    · exact .inr (stops_mono m (by omega) h)

theorem stops_clear {n i : Nat} (hi : i < n) : ∀ (d : Nat) {at' : Nat} {f : Nat → Pl}, at' < n → far n at' i = d → (f i).pins = 0 → (f i).bit = false → stops n (d + 1) at' f
  | 0, at', f, ha, hd, h1, h2 => by
    obtain rfl := far_zero ha hi hd
    exact .inl (by simp [rests, h1, h2])
  | d + 1, at', f, ha, hd, h1, h2 => .inr (stops_clear hi d (Nat.mod_lt _ (by omega)) (far_next ha hi hd) (by rw [passed_pins, h1]) (passed_bit _ _ _ h2))

theorem stops_any {n i : Nat} (hi : i < n) : ∀ (d : Nat) {at' : Nat} {f : Nat → Pl}, at' < n → far n at' i = d → (f i).pins = 0 → stops n (d + 1 + n) at' f
  | 0, at', f, ha, hd, h1 => by
    obtain rfl := far_zero ha hi hd
    rw [show 0 + 1 + n = n + 1 by omega]
    refine .inr ?_
    have := stops_clear (n := n) (i := at') hi (n - 1) (at' := (at' + 1) % n) (f := passed f at') (Nat.mod_lt _ (by omega)) (far_wrap hi) (by rw [passed_pins, h1]) (by simp [passed, upP, h1])
    rwa [show n - 1 + 1 = n by omega] at this
  | d + 1, at', f, ha, hd, h1 => by
    rw [show d + 1 + 1 + n = (d + 1 + n) + 1 by omega]
    exact .inr (stops_any hi d (Nat.mod_lt _ (by omega)) (far_next ha hi hd) (by rw [passed_pins, h1]))

/-- Where one place has no pins the hand comes to rest. -/
theorem stops_all {n at' : Nat} {f : Nat → Pl} (ha : at' < n) (h : lookF (isLoose f) n < n) : stops n (2 * n) at' f := by
  have h1 := lookF_is _ _ h
  refine stops_mono _ ?_ (stops_any h _ ha rfl (by simpa [isLoose] using h1))
  have := far_lt (n := n) (a := at') (i := lookF (isLoose f) n) (by omega)
  omega

theorem turnR_lt {n : Nat} : ∀ (m : Nat) {at' : Nat} {f : Nat → Pl}, at' < n → (turnR n m at' f).1 < n
  | 0, _, _, h => h
  | m + 1, at', f, h => by
    unfold turnR
    split
    · exact h
    · exact turnR_lt m (Nat.mod_lt _ (by omega))
theorem turnR_pins {n : Nat} : ∀ (m : Nat) {at' : Nat} {f : Nat → Pl} (j : Nat), ((turnR n m at' f).2 j).pins = (f j).pins
  | 0, _, _, _ => rfl
  | m + 1, at', f, j => by
    unfold turnR
    split
    · rfl
    · rw [turnR_pins m j, passed_pins]
theorem passed_keep (f : Nat → Pl) (i j : Nat) : (passed f i j).k = (f j).k ∧ (passed f i j).v = (f j).v ∧ (passed f i j).has = (f j).has := by
  unfold passed upP
  split
  · rename_i h; rw [h]; exact ⟨rfl, rfl, rfl⟩
  · exact ⟨rfl, rfl, rfl⟩
theorem turnR_keep {n : Nat} : ∀ (m : Nat) {at' : Nat} {f : Nat → Pl} (j : Nat), ((turnR n m at' f).2 j).k = (f j).k ∧ ((turnR n m at' f).2 j).v = (f j).v ∧ ((turnR n m at' f).2 j).has = (f j).has
  | 0, _, _, _ => ⟨rfl, rfl, rfl⟩
  | m + 1, at', f, j => by
    unfold turnR
    split
    · exact ⟨rfl, rfl, rfl⟩
    · have h1 := turnR_keep (n := n) m (at' := (at' + 1) % n) (f := passed f at') j
      have h2 := passed_keep f at' j
      exact ⟨h1.1.trans h2.1, h1.2.1.trans h2.2.1, h1.2.2.trans h2.2.2⟩

/-- A cache: where the hand stands, and its places. -/
structure Hd where
  at' : Nat
  f : Nat → Pl

/-- What a Put tells: what went out, its value, whether, why not. -/
structure Out where
  k : Int
  v : ByteArray
  had : Bool
  e : Int
abbrev quiet (e : Int) : Out := ⟨0, .mk #[], false, e⟩

def putT (n : Nat) (h : Hd) (k : Int) (v : ByteArray) : Out :=
  if lookF (isK h.f k) n < n then quiet 0
  else if lookF (isFree h.f) n < n then quiet 0
  else if lookF (isLoose h.f) n < n then ⟨(h.f (turnR n (2 * n) h.at' h.f).1).k, (h.f (turnR n (2 * n) h.at' h.f).1).v, true, 0⟩
  else quiet 5
def putH (n : Nat) (h : Hd) (k : Int) (v : ByteArray) : Hd :=
  if lookF (isK h.f k) n < n then ⟨h.at', upP h.f (lookF (isK h.f k) n) { h.f (lookF (isK h.f k) n) with v := v, bit := true }⟩
  else if lookF (isFree h.f) n < n then ⟨h.at', upP h.f (lookF (isFree h.f) n) (freshPl k v)⟩
  else if lookF (isLoose h.f) n < n then ⟨((turnR n (2 * n) h.at' h.f).1 + 1) % n, upP (turnR n (2 * n) h.at' h.f).2 (turnR n (2 * n) h.at' h.f).1 (freshPl k v)⟩
  else h
def getH (n : Nat) (h : Hd) (k : Int) : Hd :=
  if lookF (isK h.f k) n < n then ⟨h.at', upP h.f (lookF (isK h.f k) n) { h.f (lookF (isK h.f k) n) with bit := true }⟩ else h
def pinH (n : Nat) (h : Hd) (k : Int) : Hd :=
  if lookF (isK h.f k) n < n then ⟨h.at', upP h.f (lookF (isK h.f k) n) { h.f (lookF (isK h.f k) n) with pins := (h.f (lookF (isK h.f k) n)).pins + 1 }⟩ else h
def unpinB (n : Nat) (h : Hd) (k : Int) : Bool := decide (lookF (isK h.f k) n < n) && decide (0 < (h.f (lookF (isK h.f k) n)).pins)
def unpinH (n : Nat) (h : Hd) (k : Int) : Hd :=
  if unpinB n h k = true then ⟨h.at', upP h.f (lookF (isK h.f k) n) { h.f (lookF (isK h.f k) n) with pins := (h.f (lookF (isK h.f k) n)).pins - 1 }⟩ else h
def dropB (n : Nat) (h : Hd) (k : Int) : Bool := decide (lookF (isK h.f k) n < n) && decide ((h.f (lookF (isK h.f k) n)).pins = 0)
def dropH (n : Nat) (h : Hd) (k : Int) : Hd :=
  if dropB n h k = true then ⟨h.at', upP h.f (lookF (isK h.f k) n) noPl⟩ else h
/-- The keys that are there, of the first i places. -/
def keysF (f : Nat → Pl) : Nat → List Int
  | 0 => []
  | i + 1 => if (f i).has then keysF f i ++ [(f i).k] else keysF f i
theorem keysF_len (f : Nat → Pl) : ∀ i, (keysF f i).length ≤ i
  | 0 => Nat.le_refl _
  | i + 1 => by
    have := keysF_len f i
    unfold keysF
    split
    · simp; omega
    · omega
end Sx

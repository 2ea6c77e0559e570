/- The operations of the engine: what each asks, yields and turns, as a function of the deep state. -/
import Derived.Test.YtbhefgajgdcajaaSxMem
set_option linter.unusedVariables false
set_option linter.unusedSimpArgs false
namespace Sx
open Go

inductive Leaf where
  | int | bool | str
  deriving DecidableEq

inductive SOp where
  | mov (x : Operand)
  | pick (c a b : Operand)
  | box (x : Operand)
  | new (z : List Value)
  | build (z : List Value) (ps : List (Nat × Nat × Operand))
  | bslice (sz len : Nat) (z : List Value) (ps : List (Nat × Operand))
  | load (agg : Bool) (n : Nat) (a : Operand)
  | store (n : Nat) (a v : Operand)
  | nilck (x : Operand)
  | ibin (op : BinOp) (x y : Operand)
  | sbin (op : BinOp) (x y : Operand)
  | eqT (neg : Bool) (sh : List Leaf) (x y : Operand)
  | eqB (neg : Bool) (x y : Operand)
  | eqP (neg : Bool) (x y : Operand)
  | notB (x : Operand)
  | convI (src dst : IntKind) (x : Operand)
  | convSS (x : Operand)
  | convBS (x : Operand)
  | convSB (x : Operand)
  | mkfn (f : Fn) (first caps : List Operand)
  | mkmap
  | mksl (sz bytes : Nat) (z : List Value) (l c : Operand)
  | sliceS (x : Operand) (lo hi : Option Operand)
  | sliceL (sz : Nat) (x : Operand) (lo hi mx : Option Operand)
  | sliceA (n sz : Nat) (x : Operand) (lo hi : Option Operand)
  | faddr (off : Nat) (x : Operand)
  | fld (agg : Bool) (off n : Nat) (x : Operand)
  | iaddrL (sz : Nat) (x i : Operand)
  | iaddrA (n sz : Nat) (x i : Operand)
  | idxS (x i : Operand)
  | idxA (n : Nat) (agg : Bool) (sz : Nat) (x i : Operand)
  | look (x i : Operand) (ok : Bool)
  | mentry (m k : Operand)
  | estore (m s v : Operand)
  | mput (m k v : Operand)
  | mdel (m k : Operand)
  | extract (x : Operand) (i : Nat)
  | append (sz bytes : Nat) (z : List Value) (s x : Operand)
  | appz (sz bytes : Nat) (z : List Value) (s x : Operand)
  | copy (sz : Nat) (d s : Operand)
  | len (k : Nat) (x : Operand)
  | cap (x : Operand)
  | mkch (bytes : Nat) (x : Operand)
  | negI (x : Operand)
  | eqN (x y : Operand)
  | markS (x : Operand)
  | minmax (isMax : Bool) (xs : List Operand)
  | call (f : Operand) (args : List Operand)

structure OpRes where
  obl : Prop
  val : SV
  upd : List (Nat × Res)

def plainB : Value → Bool
  | .agg _ | .tuple _ => false
  | _ => true
theorem plainB_iff {v : Value} : plainB v = true ↔ Plain v := by cases v <;> simp [plainB, Plain]

/-- A constant, as a deep value. -/
def cval : Value → SV
  | .agg cs => if cs.toList.all plainB then .agg (cs.toList.map .val) else .any
  | .tuple _ => .any
  | v => .cv (.val v)

theorem denL_vals {β : Env} : ∀ (l : List Value), (∀ v ∈ l, Plain v) → CV.DenL β (l.map .val) l
  | [], _ => by simp [CV.DenL]
  | v :: l, h => ⟨⟨rfl, h v (by simp)⟩, denL_vals l (fun x hx => h x (by simp [hx]))⟩

theorem cval_den (β : Env) (v : Value) : SV.Den β (cval v) v := by
  cases v <;> simp only [cval] <;> try (exact ⟨rfl, trivial⟩)
  · rename_i cs
    split
    · rename_i h
      refine ⟨cs.toList, by simp, denL_vals _ (fun v hv => ?_)⟩
      exact plainB_iff.1 (List.all_eq_true.1 h v hv)
    · trivial
  · trivial

def ev (slots : List SV) : Operand → SV
  | .tmp t => slots.getD t .any
  | .const v => cval v
  | .global _ => .any
  | .func f => .cv (.fn (.func f) [] [])

/-- The slots fit a frame. -/
structure Fits (β : Env) (slots : List SV) (a : Act) : Prop where
  size : a.tmps.size = slots.length
  den : ∀ i, SV.Den β (slots.getD i .any) (a.tmps.getD i undef)

theorem ev_den {β : Env} {slots : List SV} {a : Act} (h : Fits β slots a) (x : Operand) : SV.Den β (ev slots x) (a.eval x) := by
  cases x with
  | tmp t => exact h.den t
  | const v => exact cval_den β v
  | global g => trivial
  | func f => exact ⟨[], [], rfl, trivial, trivial⟩

def inI64 (n : Int) : Prop := -9223372036854775808 ≤ n ∧ n ≤ 9223372036854775807

def ibits (op : BinOp) (k : IntKind) (x y : Int) : Int :=
  let a := BitVec.ofInt k.bits x
  let b := BitVec.ofInt k.bits y
  k.wrap (match op with
    | .and => a &&& b
    | .or => a ||| b
    | .xor => a ^^^ b
    | _ => a &&& ~~~b).toNat

/-- A reckoned number: in int it must fit; elsewhere it wraps. -/
def icalc (k : IntKind) (n : Int) : OpRes :=
  match k with
  | .i64 => ⟨inI64 n, .cv (.val (.int .i64 n)), []⟩
  | k => ⟨True, .cv (.val (.int k (k.wrap n))), []⟩

def ibool (b : Bool) : OpRes := ⟨True, .cv (.val (.bool b)), []⟩

def ibin (op : BinOp) (k : IntKind) (a : Int) (k' : IntKind) (b : Int) : Option OpRes :=
  match op with
  | .shl => some { icalc k (a * 2 ^ min b.toNat k.bits) with obl := 0 ≤ b ∧ (icalc k (a * 2 ^ min b.toNat k.bits)).obl }
  | .shr => some ⟨0 ≤ b, .cv (.val (.int k (a.fdiv (2 ^ min b.toNat k.bits)))), []⟩
  | _ => if k = k' then
    match op with
    | .add => some (icalc k (a + b))
    | .sub => some (icalc k (a - b))
    | .mul => some (icalc k (a * b))
    | .quo => some { icalc k (a.tdiv b) with obl := b ≠ 0 ∧ (icalc k (a.tdiv b)).obl }
    | .rem => some ⟨b ≠ 0, .cv (.val (.int k (a.tmod b))), []⟩
    | .and | .or | .xor | .andNot => some ⟨True, .cv (.val (.int k (ibits op k a b))), []⟩
    | .eql => some (ibool (a == b))
    | .neq => some (ibool (a != b))
    | .lss => some (ibool (decide (a < b)))
    | .leq => some (ibool (decide (a ≤ b)))
    | .gtr => some (ibool (decide (a > b)))
    | .geq => some (ibool (decide (a ≥ b)))
    | _ => none
  else none

theorem inI64_wrap {n : Int} (h : inI64 n) : IntKind.i64.wrap n = n := by
  obtain ⟨h1, h2⟩ := h
  simp only [IntKind.wrap, IntKind.bits, IntKind.signed]
  have e : ((2 : Int) ^ (64 : Nat)) = 18446744073709551616 := by decide
  have e' : ((2 : Int) ^ (64 - 1 : Nat)) = 9223372036854775808 := by decide
  simp only [e, e', Bool.true_and, decide_eq_true_eq]
  split <;> omega

theorem icalc_run {β : Env} (k : IntKind) (n : Int) (ho : (icalc k n).obl) :
    SV.Den β (icalc k n).val (.int k (k.wrap n)) ∧ (icalc k n).upd = [] := by
  cases k <;> first
    | exact ⟨⟨rfl, trivial⟩, rfl⟩
    | (refine ⟨⟨?_, trivial⟩, rfl⟩; rw [inI64_wrap ho])

theorem ibin_run {P : Program} {w : World} {β : Env} {op : BinOp} {k k' : IntKind} {a b : Int} {t : TypeId} {x y : Operand} {r : OpRes} (h : ibin op k a k' b = some r) (ho : r.obl) :
    ∃ v, ((eqGuard op t x y (.int k a) (.int k' b)).run P w = .ok () w) ∧ (binOp op t (.int k a) (.int k' b)).run P w = .ok v w ∧ SV.Den β r.val v ∧ r.upd = [] := by
  have hg : (eqGuard op t x y (.int k a) (.int k' b)).run P w = .ok () w := by
    cases op <;> simp [eqGuard]
  suffices hs : ∃ v, (binOp op t (.int k a) (.int k' b)).run P w = .ok v w ∧ SV.Den β r.val v ∧ r.upd = [] by
    obtain ⟨v, h1, h2, h3⟩ := hs; exact ⟨v, hg, h1, h2, h3⟩
  cases op
  case shl =>
    simp only [ibin, Option.some.injEq] at h
    subst h
    obtain ⟨h1, h2⟩ := ho
    obtain ⟨d1, d2⟩ := icalc_run (β := β) k _ h2
    refine ⟨_, ?_, d1, d2⟩
    simp [binOp, Op.shift, show ¬ b < 0 by omega]
  case shr =>
    simp only [ibin, Option.some.injEq] at h
    subst h
    exact ⟨_, by simp [binOp, Op.shift, show ¬ b < 0 by have : 0 ≤ b := ho; omega], ⟨rfl, trivial⟩, rfl⟩
  all_goals
    simp only [ibin] at h
    split at h
    case isFalse => cases h
    rename_i hk
    subst hk
    simp only [Option.some.injEq] at h
    try subst h
  case add | sub | mul =>
    obtain ⟨d1, d2⟩ := icalc_run (β := β) k _ ho
    exact ⟨_, by simp [binOp, Op.intArith], d1, d2⟩
  case quo =>
    obtain ⟨h1, h2⟩ := ho
    obtain ⟨d1, d2⟩ := icalc_run (β := β) k _ h2
    exact ⟨_, by simp [binOp, Op.intDiv, h1], d1, d2⟩
  case rem =>
    exact ⟨_, by simp [binOp, Op.intDiv, show b ≠ 0 from ho], ⟨rfl, trivial⟩, rfl⟩
  case and | or | xor | andNot =>
    exact ⟨_, by simp [binOp, Op.intBits, ibits], ⟨rfl, trivial⟩, rfl⟩
  case eql | neq | lss | leq | gtr | geq =>
    exact ⟨_, by simp [binOp, Op.intCmp], ⟨rfl, trivial⟩, rfl⟩
  all_goals cases h

/-! ### what an operation asks for, yields and turns -/

def SV.nm : SV → List Nat
  | .cv (.ptr i _ _ _) => [i]
  | .cv (.slc i _ _ _ _) => [i]
  | .cv (.mp i) => [i]
  | .cv (.ch i) => [i]
  | _ => []

/-- The names that an operation looks at. -/
def need (ρ : Operand → SV) : SOp → List Nat
  | .load _ _ a => (ρ a).nm
  | .store _ a _ => (ρ a).nm
  | .convBS x => (ρ x).nm
  | .markS x => (ρ x).nm
  | .sliceA _ _ x _ _ => (ρ x).nm
  | .look x _ _ => (ρ x).nm
  | .mentry x _ => (ρ x).nm
  | .estore x _ _ => (ρ x).nm
  | .mdel x _ => (ρ x).nm
  | .append _ _ _ s x => (ρ s).nm ++ (ρ x).nm
  | .appz _ _ _ s _ => (ρ s).nm
  | .copy _ s x => (ρ s).nm ++ (ρ x).nm
  | .len _ x => match ρ x with
    | .cv (.mp i) => [i]
    | _ => []
  | _ => []

/-- What was looked at, by its name. -/
def lk : List (Nat × Res) → Nat → Res
  | [], _ => .gone
  | (j, r) :: l, i => if i = j then r else lk l i

theorem lk_map (res : Nat → Res) : ∀ (l : List Nat) (i : Nat), i ∈ l → lk (l.map fun j => (j, res j)) i = res i
  | j :: l, i, h => by
    simp only [List.map_cons, lk]
    split
    · rename_i e; rw [e]
    · rename_i e
      exact lk_map res l i (by rcases List.mem_cons.1 h with h | h; exact absurd h e; exact h)

def cellsOf : SV → Option (List CV)
  | .cv c => some [c]
  | .agg l => some l
  | _ => none

def svOf (agg : Bool) (l : List CV) : SV := if agg then .agg l else .cv (l.headD .any)

/-- n cells of a resource, at a record's field. -/
def rget (r : Res) (sz idx fld n : Nat) : Option (Prop × List CV) :=
  match r with
  | .cells l => if idx * sz + fld + n ≤ l.length then some (True, (l.drop (idx * sz + fld)).take n) else none
  | .recs sz' m f => if sz' = sz ∧ fld + n ≤ sz then some (idx < m, ((f idx).drop fld).take n) else none
  | .ro sz' m f => if sz' = sz ∧ fld + n ≤ sz then some (idx < m, ((f idx).drop fld).take n) else none
  | .frz sz' m f => if sz' = sz ∧ fld + n ≤ sz then some (idx < m, ((f idx).drop fld).take n) else none
  | _ => none

def spliceC (l : List CV) (off : Nat) (cs : List CV) : List CV := l.take off ++ cs ++ l.drop (off + cs.length)

def rset (r : Res) (sz idx fld : Nat) (cs : List CV) : Option (Prop × Res) :=
  match r with
  | .cells l => if idx * sz + fld + cs.length ≤ l.length then some (True, .cells (spliceC l (idx * sz + fld) cs)) else none
  | .recs sz' m f => if sz' = sz ∧ fld + cs.length ≤ sz then
      some (idx < m, .recs sz m (fun j => if j = idx then spliceC (f idx) fld cs else f j)) else none
  | _ => none

def sbyte (s : ByteArray) (j : Nat) : Int := ((s.data.toList.getD j 0).toNat : Int)

/-- What a slice (or a string) gives, record by record. -/
def src (sz : Nat) (v : SV) (rs : List (Nat × Res)) : Option (Prop × Nat × (Nat → List CV)) :=
  match v with
  | .cv (.val (.slice none 0 0)) => some (True, 0, fun _ => [])
  | .cv (.val (.string s)) => if sz = 1 then some (True, s.size, fun j => [.val (.int .u8 (sbyte s j))]) else none
  | .cv (.slc i sz' lo len _) => if sz' = sz then
      match lk rs i with
      | .cells l => some (True, len, fun j => (l.drop ((lo + j) * sz)).take sz)
      | .recs sz'' m f => if sz'' = sz then some (lo + len ≤ m, len, fun j => f (lo + j)) else none
      | .ro sz'' m f => if sz'' = sz then some (lo + len ≤ m, len, fun j => f (lo + j)) else none
      | .frz sz'' m f => if sz'' = sz then some (lo + len ≤ m, len, fun j => f (lo + j)) else none
      | _ => none
    else none
  | .cv (.rsl sz' len _ f) => if sz' = sz then some (True, len, f) else none
  | _ => none

def oint (ρ : Operand → SV) (d : Int) : Option Operand → Option Int
  | none => some d
  | some x => match ρ x with
    | .cv (.val (.int _ n)) => some n
    | _ => none

def eqCells : List Leaf → List CV → List CV → Option Bool
  | [], [], [] => some true
  | .int :: sh, .val (.int k a) :: l, .val (.int k' b) :: m => if k = k' then (eqCells sh l m).map fun r => (a == b) && r else none
  | .bool :: sh, .val (.bool a) :: l, .val (.bool b) :: m => (eqCells sh l m).map fun r => (a == b) && r
  | .str :: sh, .val (.string a) :: l, .val (.string b) :: m => (eqCells sh l m).map fun r => (a.toList == b.toList) && r
  | _, _, _ => none

def rfind (l : RMap) (k : Int × Int) : Option (Int × Int) := (l.find? fun e => e.1 == k).map (·.2)
def rdel (l : RMap) (k : Int × Int) : RMap := l.eraseP fun e => e.1 == k

def cvB : CV → UInt8
  | .val (.int .u8 n) => UInt8.ofNat n.toNat
  | _ => 0
/-- The text of n cells. -/
def bstr (n : Nat) (g : Nat → List CV) : ByteArray := ⟨((List.range n).map fun j => cvB ((g j).headD .any)).toArray⟩

def cvs (ρ : Operand → SV) : List Operand → Option (List CV)
  | [] => some []
  | x :: l => match ρ x, cvs ρ l with
    | .cv c, some r => some (c :: r)
    | _, _ => none

def fillC (ρ : Operand → SV) : List (Nat × Nat × Operand) → List CV → Option (List CV)
  | [], l => some l
  | (off, sz, x) :: r, l => match cellsOf (ρ x) with
    | some cs => if cs.length = sz ∧ off + sz ≤ l.length then fillC ρ r (spliceC l off cs) else none
    | none => none

def rows (n : Nat) (z : List Value) : List CV := ((List.replicate n (z.map CV.val)).flatten)

def ints (ρ : Operand → SV) : List Operand → Option (List Int)
  | [] => some []
  | x :: l => match ρ x, ints ρ l with
    | .cv (.val (.int .i64 n)), some r => some (n :: r)
    | _, _ => none

def svDest (sz : Nat) (v : SV) (rs : List (Nat × Res)) : Option (Option Nat × Nat × Prop × (Nat → List CV)) :=
  match v with
  | .cv (.val (.slice none 0 0)) => some (none, 0, True, fun _ => [])
  | .cv (.slc i sz' lo n mc) => if sz' = sz then
      match mc, n, lo with
      | some 0, 0, _ => some (none, 0, True, fun _ => [])
      | none, n, 0 => match lk rs i with
        | .cells l => some (some i, n, True, fun j => (l.drop (j * sz)).take sz)
        | .recs sz'' m f => if sz'' = sz then some (some i, n, n ≤ m, f) else none
        | _ => none
      | _, _, _ => none
    else none
  | .cv (.rsl sz' n mc _) => if sz' = sz then
      match mc, n with
      | some 0, 0 => some (none, 0, True, fun _ => [])
      | _, _ => none
    else none
  | _ => none

/-- A slice whose room is known. -/
def svRoom (sz : Nat) (v : SV) (rs : List (Nat × Res)) : Option (Nat × Nat × Nat × Nat × (Nat → List CV)) :=
  match v with
  | .cv (.slc i sz' lo k mc) => if sz' = sz then
      match lo, mc with
      | 0, some c => match lk rs i with
        | .recs sz'' m f => if sz'' = sz then some (i, k, c, m, f) else none
        | _ => none
      | _, _ => none
    else none
  | _ => none

/-- What an append of m rows leaves. -/
def appFn (sz bytes : Nat) (d : Option (Option Nat × Nat × Prop × (Nat → List CV))) (room : Option (Nat × Nat × Nat × Nat × (Nat → List CV))) (q : Prop) (m : Nat) (g : Nat → List CV) (n : Nat) : Option OpRes :=
  match d with
  | some (none, _, _, _) => some ⟨q ∧ m * bytes ≤ 140737488355328, .cv (.slc n sz 0 m none), [(n, .recs sz m g)]⟩
  | some (some i, k, p, f) => some ⟨p ∧ q ∧ (k + m) * bytes ≤ 140737488355328, .cv (.slc n sz 0 (k + m) none),
      [(i, .gone), (n, .recs sz (k + m) fun j => if j < k then f j else g (j - k))]⟩
  | none => match room with
    | some (i, k, c, N, f) => some ⟨q ∧ k + m ≤ c ∧ c ≤ N ∧ (k + m) * bytes ≤ 140737488355328, .cv (.slc i sz 0 (k + m) (some c)),
      [(i, .recs sz N fun j => if k ≤ j ∧ j < k + m then g (j - k) else f j)]⟩
    | none => none

def sameO : Operand → Operand → Bool
  | .tmp a, .tmp b => a == b
  | .const (.int _ a), .const (.int _ b) => a == b
  | _, _ => false

def keyOf2 : SV → Option (Int × Int)
  | .agg [.val (.int .i64 a), .val (.int .i64 b)] => some (a, b)
  | _ => none

def ridC (p : Int × Int) : List CV := [.val (.int .i64 p.1), .val (.int .i64 p.2)]

def pow2 (n : Nat) : Nat := 2 ^ n

/-- Does a kind's every number go into another kind? -/
def widens : IntKind → IntKind → Bool
  | .u8, .u16 | .u8, .u32 | .u8, .u64 | .u8, .i16 | .u8, .i32 | .u8, .i64 | .u16, .u32 | .u16, .u64 | .u16, .i32 | .u16, .i64 | .u32, .u64 | .u32, .i64 => true
  | .i8, .i16 | .i8, .i32 | .i8, .i64 | .i16, .i32 | .i16, .i64 | .i32, .i64 => true
  | _, _ => false

def opFn (ρ : Operand → SV) (so : SOp) (rs : List (Nat × Res)) (n : Nat) : Option OpRes :=
  match so with
  | .mov x => some ⟨True, ρ x, []⟩
  | .pick c a b => match ρ c with
    | .cv (.val (.bool true)) => some ⟨True, ρ a, []⟩
    | .cv (.val (.bool false)) => some ⟨True, ρ b, []⟩
    | _ => none
  | .box x => match cellsOf (ρ x) with
    | some cs => some ⟨True, .cv (.ptr n 0 0 0), [(n, .cells cs)]⟩
    | none => none
  | .new z => some ⟨True, .cv (.ptr n 0 0 0), [(n, .cells (z.map .val))]⟩
  | .build z ps => match fillC ρ ps (z.map .val) with
    | some l => some ⟨True, .agg l, []⟩
    | none => none
  | .bslice sz len z ps => match fillC ρ (ps.map fun p => (p.1 * sz, sz, p.2)) (rows len z) with
    | some l => some ⟨True, .cv (.slc n sz 0 len none), [(n, .cells l)]⟩
    | none => none
  | .load agg m a => match ρ a with
    | .cv (.ptr i sz idx fld) => match rget (lk rs i) sz idx fld m with
      | some (p, l) => some ⟨p, svOf agg l, []⟩
      | none => none
    | .cv (.rp l) => if m ≤ l.length then some ⟨True, svOf agg (l.take m), []⟩ else none
    | _ => none
  | .store m a v => match ρ a, cellsOf (ρ v) with
    | .cv (.ptr i sz idx fld), some cs => if cs.length = m then
        match rset (lk rs i) sz idx fld cs with
        | some (p, r) => some ⟨p, .any, [(i, r)]⟩
        | none => none
      else none
    | _, _ => none
  | .nilck x => match ρ x with
    | .cv (.ptr i sz idx fld) => some ⟨True, .cv (.ptr i sz idx fld), []⟩
    | .cv (.fn (.func f) a b) => some ⟨True, .cv (.fn (.func f) a b), []⟩
    | .cv (.rp l) => some ⟨True, .cv (.rp l), []⟩
    | _ => none
  | .ibin op x y => match ρ x, ρ y with
    | .cv (.val (.int k a)), .cv (.val (.int k' b)) => ibin op k a k' b
    | _, _ => none
  | .sbin op x y => match ρ x, ρ y with
    | .cv (.val (.string a)), .cv (.val (.string b)) => match op with
      | .eql => some (ibool (a.toList == b.toList))
      | .neq => some (ibool (!(a.toList == b.toList)))
      | .add => some ⟨a.size + b.size ≤ 9223372036854775807, .cv (.val (.string (a ++ b))), []⟩
      | _ => none
    | _, _ => none
  | .eqT neg sh x y => match ρ x, ρ y with
    | .agg a, .agg b => match eqCells sh a b with
      | some r => some (ibool (if neg then !r else r))
      | none => none
    | _, _ => none
  | .eqB neg x y => match ρ x, ρ y with
    | .cv (.val (.bool a)), .cv (.val (.bool b)) => some (ibool (if neg then !(a == b) else a == b))
    | _, _ => none
  | .eqP neg x y => match ρ x, ρ y with
    | .cv (.ptr _ _ _ _), .cv (.val (.pointer none)) => some (ibool neg)
    | .cv (.val (.pointer none)), .cv (.ptr _ _ _ _) => some (ibool neg)
    | .cv (.val (.pointer none)), .cv (.val (.pointer none)) => some (ibool (!neg))
    | .cv (.rp _), .cv (.val (.pointer none)) => some (ibool neg)
    | _, _ => none
  | .notB x => match ρ x with
    | .cv (.val (.bool a)) => some (ibool (!a))
    | _ => none
  | .convI s d x => match ρ x with
    | .cv (.val (.int k a)) => if k = s then
        (if widens s d then some ⟨s.min ≤ a ∧ a ≤ s.max, .cv (.val (.int d a)), []⟩ else some ⟨True, .cv (.val (.int d (d.wrap a))), []⟩) else none
    | _ => none
  | .convSS x => match ρ x with
    | .cv (.val (.string s)) => some ⟨True, .cv (.val (.string s)), []⟩
    | _ => none
  | .convBS x => match src 1 (ρ x) rs with
    | some (p, m, g) => match ρ x with
      | .cv (.val (.string _)) => none
      | _ => some ⟨p ∧ ∀ j, j < m → ∃ b, g j = [.val (.int .u8 b)], .cv (.val (.string (bstr m g))), []⟩
    | none => none
  | .convSB x => match ρ x with
    | .cv (.val (.string s)) => some ⟨s.size < 9223372036854775808, .cv (.slc n 1 0 s.size none), [(n, .recs 1 s.size fun j => [.val (.int .u8 (sbyte s j))])]⟩
    | _ => none
  | .mkfn f first caps => match cvs ρ first, cvs ρ caps with
    | some a, some b => some ⟨True, .cv (.fn f a b), []⟩
    | _, _ => none
  | .mkmap => some ⟨True, .cv (.mp n), [(n, .rmap [])]⟩
  | .mksl sz bytes z l c => match ρ l, ρ c with
    | .cv (.val (.int _ a)), .cv (.val (.int _ b)) => some ⟨0 ≤ a ∧ a ≤ b ∧ b * bytes ≤ 140737488355328, .cv (.slc n sz 0 a.toNat (if sameO l c then none else some b.toNat)), [(n, .recs sz b.toNat fun _ => z.map .val)]⟩
    | _, _ => none
  | .sliceS x lo hi => match ρ x with
    | .cv (.val (.string s)) => match oint ρ 0 lo, oint ρ s.size hi with
      | some l, some h => some ⟨0 ≤ l ∧ l ≤ h ∧ h ≤ s.size, .cv (.val (.string (s.extract l.toNat h.toNat))), []⟩
      | _, _ => none
    | _ => none
  | .sliceL sz x lo hi mx => match ρ x with
    | .cv (.slc i sz' lo0 len mc) => if sz' = sz then
        match oint ρ 0 lo, oint ρ len hi, mx with
        | some l, some h, none => some ⟨0 ≤ l ∧ l ≤ h ∧ h ≤ (mc.getD len : Nat), .cv (.slc i sz (lo0 + l.toNat) (h.toNat - l.toNat) (mc.map (· - l.toNat))), []⟩
        | some l, some h, some y => match hi, oint ρ 0 (some y) with
          | some _, some m => some ⟨0 ≤ l ∧ l ≤ h ∧ h ≤ m ∧ m ≤ len, .cv (.slc i sz (lo0 + l.toNat) (h.toNat - l.toNat) (some (m.toNat - l.toNat))), []⟩
          | _, _ => none
        | _, _, _ => none
      else none
    | .cv (.rsl sz' len mc f) => if sz' = sz then
        match oint ρ 0 lo, oint ρ len hi, mx with
        | some l, some h, none => some ⟨0 ≤ l ∧ l ≤ h ∧ h ≤ len, .cv (.rsl sz (h.toNat - l.toNat) (mc.map (· - l.toNat)) (fun j => f (l.toNat + j))), []⟩
        | some l, some h, some y => match hi, oint ρ 0 (some y) with
          | some _, some m => some ⟨0 ≤ l ∧ l ≤ h ∧ h ≤ m ∧ m ≤ len, .cv (.rsl sz (h.toNat - l.toNat) (some (m.toNat - l.toNat)) (fun j => f (l.toNat + j))), []⟩
          | _, _ => none
        | _, _, _ => none
      else none
    | .cv (.val (.slice none 0 0)) => match oint ρ 0 lo, oint ρ 0 hi, mx with
        | some l, some h, none => some ⟨l = 0 ∧ h = 0, .cv (.val (.slice none 0 0)), []⟩
        | some l, some h, some y => match hi, oint ρ 0 (some y) with
          | some _, some m => some ⟨l = 0 ∧ h = 0 ∧ m = 0, .cv (.val (.slice none 0 0)), []⟩
          | _, _ => none
        | _, _, _ => none
    | _ => none
  | .sliceA m sz x lo hi => match ρ x with
    | .cv (.ptr i 0 0 0) => match lk rs i with
      | .cells l => if l.length = m * sz then
          match oint ρ 0 lo, oint ρ m hi with
          | some a, some b => some ⟨0 ≤ a ∧ a ≤ b ∧ b ≤ m, .cv (.slc i sz a.toNat (b.toNat - a.toNat) none), []⟩
          | _, _ => none
        else none
      | .recs sz' k _ => if sz' = sz ∧ k = m then
          match oint ρ 0 lo, oint ρ m hi with
          | some a, some b => some ⟨0 ≤ a ∧ a ≤ b ∧ b ≤ m, .cv (.slc i sz a.toNat (b.toNat - a.toNat) (some (m - a.toNat))), []⟩
          | _, _ => none
        else none
      | _ => none
    | _ => none
  | .faddr off x => match ρ x with
    | .cv (.ptr i sz idx fld) => some ⟨True, .cv (.ptr i sz idx (fld + off)), []⟩
    | .cv (.rp l) => some ⟨True, .cv (.rp (l.drop off)), []⟩
    | _ => none
  | .fld agg off m x => match ρ x with
    | .agg l => if off + m ≤ l.length then some ⟨True, svOf agg ((l.drop off).take m), []⟩ else none
    | _ => none
  | .iaddrL sz x y => match ρ x, ρ y with
    | .cv (.slc i sz' lo len _), .cv (.val (.int _ a)) => if sz' = sz then some ⟨0 ≤ a ∧ a < len, .cv (.ptr i sz (lo + a.toNat) 0), []⟩ else none
    | .cv (.rsl sz' len _ f), .cv (.val (.int _ a)) => if sz' = sz then some ⟨0 ≤ a ∧ a < len, .cv (.rp (f a.toNat)), []⟩ else none
    | _, _ => none
  | .iaddrA m sz x y => match ρ x, ρ y with
    | .cv (.ptr i 0 0 0), .cv (.val (.int _ a)) => some ⟨0 ≤ a ∧ a < m, .cv (.ptr i sz a.toNat 0), []⟩
    | .cv (.ptr i sz0 idx fld), .cv (.val (.int _ a)) => some ⟨0 ≤ a ∧ a < m, .cv (.ptr i sz0 idx (fld + a.toNat * sz)), []⟩
    | .cv (.rp l), .cv (.val (.int _ a)) => some ⟨0 ≤ a ∧ a < m, .cv (.rp (l.drop (a.toNat * sz))), []⟩
    | _, _ => none
  | .idxS x y => match ρ x, ρ y with
    | .cv (.val (.string s)), .cv (.val (.int _ a)) => some ⟨0 ≤ a ∧ a < s.size, .cv (.val (.int .u8 (sbyte s a.toNat))), []⟩
    | _, _ => none
  | .idxA m agg sz x y => match ρ x, ρ y with
    | .agg l, .cv (.val (.int _ a)) => if l.length = m * sz then some ⟨0 ≤ a ∧ a < m, svOf agg ((l.drop (a.toNat * sz)).take sz), []⟩ else none
    | _, _ => none
  | .look x y ok => match ρ x, keyOf2 (ρ y) with
    | .cv (.mp i), some k => match lk rs i with
      | .rmap l => some ⟨True, if ok then .tup [.agg (ridC ((rfind l k).getD (0, 0))), .cv (.val (.bool (rfind l k).isSome))] else .agg (ridC ((rfind l k).getD (0, 0))), []⟩
      | _ => none
    | _, _ => none
  | .mentry m y => match ρ m, keyOf2 (ρ y) with
    | .cv (.mp i), some k => match lk rs i with
      | .rmap l => some ⟨rfind l k = none, .tup [.any, .cv (.num n)], [(i, .rmapP l k n), (n, .gone)]⟩
      | _ => none
    | _, _ => none
  | .estore m s v => match ρ m, ρ s, keyOf2 (ρ v) with
    | .cv (.mp i), .cv (.num j), some x => match lk rs i with
      | .rmapP l k j' => if j' = j then some ⟨True, .any, [(i, .rmap (l ++ [(k, x)]))]⟩ else none
      | _ => none
    | _, _, _ => none
  | .mdel m y => match ρ m, keyOf2 (ρ y) with
    | .cv (.mp i), some k => match lk rs i with
      | .rmap l => some ⟨True, .any, [(i, .rmap (rdel l k))]⟩
      | _ => none
    | _, _ => none
  | .extract x i => match ρ x with
    | .tup l => if i < l.length then some ⟨True, l.getD i .any, []⟩ else none
    | _ => none
  | .append sz bytes _ s x => match src sz (ρ x) rs with
    | some (q, m, g) => appFn sz bytes (svDest sz (ρ s) rs) (svRoom sz (ρ s) rs) q m g n
    | none => none
  | .appz sz bytes z s x => match ρ x with
    | .cv (.val (.int _ a)) => appFn sz bytes (svDest sz (ρ s) rs) (svRoom sz (ρ s) rs) (0 ≤ a) a.toNat (fun _ => z.map .val) n
    | _ => none
  | .copy sz d s => match ρ d, src sz (ρ s) rs with
    | .cv (.slc i sz' lo len _), some (q, m, g) => if sz' = sz then
        match lk rs i with
        | .recs sz'' k f => if sz'' = sz then some ⟨q ∧ lo + len ≤ k, .cv (.val (.int .i64 (min m len : Nat))),
            [(i, .recs sz k fun j => if lo ≤ j ∧ j < lo + min m len then g (j - lo) else f j)]⟩ else none
        | _ => none
      else none
    | _, _ => none
  | .len k x => match ρ x with
    | .cv (.val (.string s)) => if k = 0 then some ⟨True, .cv (.val (.int .i64 s.size)), []⟩ else none
    | .cv (.val (.slice _ len _)) => if k = 1 then some ⟨True, .cv (.val (.int .i64 len)), []⟩ else none
    | .cv (.slc _ _ _ len _) => if k = 1 then some ⟨True, .cv (.val (.int .i64 len)), []⟩ else none
    | .cv (.rsl _ len _ _) => if k = 1 then some ⟨True, .cv (.val (.int .i64 len)), []⟩ else none
    | .cv (.mp i) => if k = 2 then
        match lk rs i with
        | .rmap l => some ⟨True, .cv (.val (.int .i64 l.length)), []⟩
        | _ => none
      else none
    | _ => none
  | .cap x => match ρ x with
    | .cv (.slc _ _ _ _ (some m)) => some ⟨True, .cv (.val (.int .i64 m)), []⟩
    | .cv (.rsl _ _ (some m) _) => some ⟨True, .cv (.val (.int .i64 m)), []⟩
    | _ => none
  | .eqN x y => match ρ x, ρ y with
    | .cv (.val (.slice none 0 0)), .cv (.val (.slice none 0 0)) => some (ibool true)
    | .cv (.rsl _ k _ _), .cv (.val (.slice none 0 0)) => some ⟨True, .cv (.nq k), []⟩
    | .cv (.slc _ _ _ k _), .cv (.val (.slice none 0 0)) => some ⟨True, .cv (.nq k), []⟩
    | _, _ => none
  | .markS x => match ρ x with
    | .cv (.slc i 1 0 k none) => match lk rs i with
      | .cells l => some ⟨0 < k, .cv (.slc i 1 0 k none), [(i, .cells l)]⟩
      | _ => none
    | _ => none
  | .mkch bytes x => match ρ x with
    | .cv (.val (.int _ a)) => some ⟨0 ≤ a ∧ a * bytes ≤ 140737488355328 ∧ a ≤ 9223372036854775807, .cv (.ch n), [(n, .chan a.toNat [])]⟩
    | _ => none
  | .negI x => match ρ x with
    | .cv (.val (.int k a)) => some (icalc k (0 - a))
    | _ => none
  | .minmax isMax xs => match ints ρ xs with
    | some (a :: l) => some ⟨True, .cv (.val (.int .i64 (l.foldl (fun x y => if isMax then max x y else min x y) a))), []⟩
    | _ => none
  | _ => none

end Sx

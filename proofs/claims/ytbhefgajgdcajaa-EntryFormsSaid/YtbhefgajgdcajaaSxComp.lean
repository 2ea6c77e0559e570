/- The engine's operation for the model's: layouts looked up in the program's tables. -/
import Derived.Test.YtbhefgajgdcajaaSxRun
set_option linter.unusedVariables false
set_option linter.unusedSimpArgs false
namespace Sx
open Go

/-- The leaves of a type that is compared leaf by leaf. -/
def flatF (fl : TypeId → Option (List Leaf)) : List Field → Nat → Option (List Leaf)
  | [], _ => some []
  | f :: fs, off => if f.name ≠ "_" ∧ f.offset = off then
      match fl f.type with
      | some l => match flatF fl fs (off + l.length) with
        | some r => some (l ++ r)
        | none => none
      | none => none
    else none

def flat (P : Program) : Nat → TypeId → Option (List Leaf)
  | 0, _ => none
  | d + 1, t => match P.underlying t with
    | some (.int _) => some [.int]
    | some .bool => some [.bool]
    | some .string => some [.str]
    | some (.struct fs) => if P.stoodInHeld t then none else
      match flatF (flat P d) fs.toList 0, P.info? t with
      | some r, some i => if i.size = r.length then some r else none
      | _, _ => none
    | _ => none

def isRid (P : Program) (t : TypeId) : Bool :=
  match P.underlying t, P.info? t with
  | some (.struct fs), some i => decide (flat P 3 t = some [.int, .int]) && decide (i.size = 2) &&
      (match i.zero with
       | some (.agg cs) => match cs.toList with
         | [.int .i64 0, .int .i64 0] => true
         | _ => false
       | _ => false) && !fs.isEmpty
  | _, _ => false

def zeroOf (P : Program) (t : TypeId) : Option (List Value) :=
  match P.info? t with
  | some i => match i.zero with
    | some z => if z.cells.toList.all plainB && decide (z.cells.size = i.size) then some z.cells.toList else none
    | none => none
  | none => none

def partsOf (P : Program) (fs : Array Field) : List (Nat × Operand) → Option (List (Nat × Nat × Operand))
  | [] => some []
  | (i, x) :: l => match fs[i]?, partsOf P fs l with
    | some f, some r => match P.info? f.type with
      | some j => some ((f.offset, j.size, x) :: r)
      | none => none
    | _, _ => none

def cAlloc (P : Program) (t : TypeId) : Option SOp := (zeroOf P t).map .new

def cBuild (P : Program) (t : TypeId) (ps : Array (Nat × Operand)) : Option SOp :=
  match P.underlying t, zeroOf P t with
  | some (.struct fs), some z => if (fs.toList.all fun f => (P.info? f.type).isSome) then (partsOf P fs ps.toList).map (.build z) else none
  | some (.array _ e), some z => (P.info? e).map fun i => .build z (ps.toList.map fun p => (p.1 * i.size, i.size, p.2))
  | _, _ => none

def cBuildSlice (P : Program) (t : TypeId) (len : Nat) (ps : Array (Nat × Operand)) : Option SOp :=
  match P.underlying t with
  | some (.slice e) => match P.info? e, zeroOf P e with
    | some i, some z => if 0 < i.size ∧ len * i.size ≤ 16777216 then some (.bslice i.size len z ps.toList) else none
    | _, _ => none
  | _ => none

def isAggD : TypeDesc → Bool
  | .struct _ | .array _ _ => true
  | _ => false

def cLoad (P : Program) (t : TypeId) (a : Operand) : Option SOp :=
  match P.underlying t, P.info? t with
  | some d, some i => if isAggD d then some (.load true i.size a) else some (.load false 1 a)
  | _, _ => none

def cEq (op : BinOp) (f : Bool → SOp) : Option SOp :=
  match op with
  | .eql => some (f false)
  | .neq => some (f true)
  | _ => none

def cBin (P : Program) (op : BinOp) (t : TypeId) (x y : Operand) : Option SOp :=
  match P.underlying t with
  | some (.int _) => some (.ibin op x y)
  | some .string => some (.sbin op x y)
  | some .bool => cEq op fun b => .eqB b x y
  | some (.pointer _) => cEq op fun b => .eqP b x y
  | some (.slice _) => match op with
    | .eql => some (.eqN x y)
    | _ => none
  | some (.struct _) => if P.eqGuardType P.depth t then none else
    match flat P 9 t with
    | some sh => cEq op fun b => .eqT b sh x y
    | none => none
  | _ => none

def isByte (P : Program) (e : TypeId) : Bool := match P.underlying e with
  | some (.int .u8) => true
  | _ => false

def cConv (P : Program) (s d : TypeId) (x : Operand) : Option SOp :=
  match P.underlying s, P.underlying d with
  | some (.int a), some (.int b) => some (.convI a b x)
  | some .string, some .string => some (.convSS x)
  | some (.slice e), some .string => if isByte P e then some (.convBS x) else none
  | some .string, some (.slice e) => if isByte P e then some (.convSB x) else none
  | some (.slice _), some (.slice e) => if s == d && isByte P e then some (.markS x) else none
  | _, _ => none

def ridMap (P : Program) (t : TypeId) : Bool := match P.underlying t with
  | some (.map k e) => isRid P k && isRid P e
  | _ => false

def cMakeSlice (P : Program) (t : TypeId) (l c : Operand) : Option SOp :=
  match P.underlying t with
  | some (.slice e) => match P.info? e, zeroOf P e with
    | some i, some z => if 0 < i.size ∧ 0 < i.bytes then some (.mksl i.size i.bytes z l c) else none
    | _, _ => none
  | _ => none

def cSlice (P : Program) (t : TypeId) (x : Operand) (lo hi mx : Option Operand) : Option SOp :=
  match P.underlying t with
  | some .string => if mx.isSome then none else some (.sliceS x lo hi)
  | some (.slice e) => (P.info? e).map fun i => .sliceL i.size x lo hi mx
  | some (.array n e) => match P.info? e with
    | some i => if mx.isSome ∨ i.size = 0 then none else some (.sliceA n i.size x lo hi)
    | none => none
  | _ => none

def fieldOf (P : Program) (s : TypeId) (f : Nat) : Option Field :=
  match P.underlying s with
  | some (.struct fs) => fs[f]?
  | _ => none

def cFieldAddr (P : Program) (s : TypeId) (x : Operand) (f : Nat) : Option SOp :=
  match fieldOf P s f with
  | some g => match P.info? g.type with
    | some i => if i.size = 0 then none else some (.faddr g.offset x)
    | none => none
  | none => none

def cField (P : Program) (s : TypeId) (x : Operand) (f : Nat) : Option SOp :=
  match fieldOf P s f with
  | some g => match P.underlying g.type, P.info? g.type with
    | some d, some i => if isAggD d then some (.fld true g.offset i.size x) else some (.fld false g.offset 1 x)
    | _, _ => none
  | none => none

def cIndexAddr (P : Program) (t : TypeId) (x i : Operand) : Option SOp :=
  match P.underlying t with
  | some (.slice e) => (P.info? e).map fun j => .iaddrL j.size x i
  | some (.array n e) => (P.info? e).map fun j => .iaddrA n j.size x i
  | _ => none

def cIndex (P : Program) (t : TypeId) (x i : Operand) : Option SOp :=
  match P.underlying t with
  | some .string => some (.idxS x i)
  | some (.array n e) => match P.underlying e, P.info? e with
    | some d, some j => if isAggD d then some (.idxA n true j.size x i) else if j.size = 1 then some (.idxA n false 1 x i) else none
    | _, _ => none
  | _ => none

def srcD : TypeDesc → Bool
  | .slice _ | .string => true
  | _ => false

def intD : TypeDesc → Bool
  | .int _ => true
  | _ => false

def cAppend (P : Program) (ts : List TypeId) (xs : List Operand) : Option SOp :=
  match ts, xs with
  | [t, u], [s, x] => match P.underlying t, P.underlying u with
    | some (.slice e), some d => match P.info? e, zeroOf P e with
      | some i, some z => if 0 < i.size ∧ 0 < i.bytes ∧ srcD d = true then some (.append i.size i.bytes z s x) else
          if 0 < i.size ∧ 0 < i.bytes ∧ intD d = true then some (.appz i.size i.bytes z s x) else none
      | _, _ => none
    | _, _ => none
  | _, _ => none

def cCopy (P : Program) (ts : List TypeId) (xs : List Operand) : Option SOp :=
  match ts, xs with
  | t :: _, [d, s] => match P.underlying t with
    | some (.slice e) => (P.info? e).map fun i => .copy i.size d s
    | _ => none
  | _, _ => none

def lenD : TypeDesc → Option Nat
  | .string => some 0
  | .slice _ => some 1
  | .map _ _ => some 2
  | _ => none

def cLen (P : Program) (ts : List TypeId) (xs : List Operand) : Option SOp :=
  match ts, xs with
  | t :: _, [x] => match P.underlying t with
    | some d => (lenD d).map fun k => .len k x
    | none => none
  | _, _ => none

def cCap (P : Program) (ts : List TypeId) (xs : List Operand) : Option SOp :=
  match ts, xs with
  | t :: _, [x] => match P.underlying t with
    | some (.slice _) => some (.cap x)
    | _ => none
  | _, _ => none

def cMakeChan (P : Program) (t : TypeId) (x : Operand) : Option SOp :=
  match P.underlying t with
  | some (.chan _ e) => (P.info? e).map fun i => .mkch i.bytes x
  | _ => none

def cDelete (P : Program) (ts : List TypeId) (xs : List Operand) : Option SOp :=
  match ts, xs with
  | t :: _, [m, k] => if ridMap P t then some (.mdel m k) else none
  | _, _ => none

def cCall (P : Program) (c : Call) : Option SOp :=
  match c.callee with
  | .value f => some (.call f c.args.toList)
  | .builtin .append => cAppend P c.argTypes.toList c.args.toList
  | .builtin .copy => cCopy P c.argTypes.toList c.args.toList
  | .builtin .cap => cCap P c.argTypes.toList c.args.toList
  | .builtin .len => cLen P c.argTypes.toList c.args.toList
  | .builtin .delete => cDelete P c.argTypes.toList c.args.toList
  | .builtin .min => some (.minmax false c.args.toList)
  | .builtin .max => some (.minmax true c.args.toList)
  | _ => none

def compileOp (P : Program) : Op → Option SOp
  | .move x => some (.mov x)
  | .assign x => some (.mov x)
  | .pick c a b => some (.pick c a b)
  | .box _ x => some (.box x)
  | .alloc t => cAlloc P t
  | .build t ps => cBuild P t ps
  | .buildSlice t len ps => cBuildSlice P t len ps
  | .load t a => cLoad P t a
  | .store t a v => (P.info? t).map fun i => .store i.size a v
  | .nilCheck x => some (.nilck x)
  | .binOp op t x y _ => cBin P op t x y
  | .unOp op _ x => match op with
    | .not => some (.notB x)
    | .neg => some (.negI x)
    | _ => none
  | .convert s d x => cConv P s d x
  | .makeFunc f first caps => some (.mkfn f first.toList caps.toList)
  | .makeMap t r => if r.isNone && ridMap P t then some .mkmap else none
  | .makeSlice t l c => cMakeSlice P t l c
  | .makeChan t s => cMakeChan P t s
  | .slice t x lo hi mx => cSlice P t x lo hi mx
  | .fieldAddr s x f => cFieldAddr P s x f
  | .field s x f => cField P s x f
  | .indexAddr t x i => cIndexAddr P t x i
  | .index t x i => cIndex P t x i
  | .lookup t x i ok => if ridMap P t then some (.look x i ok) else none
  | .mapEntry t m k => if ridMap P t then some (.mentry m k) else none
  | .entryStore _ m s v => some (.estore m s v)
  | .extract x i => some (.extract x i)
  | .call c => cCall P c
  | _ => none

def oo : Option Operand → List Operand
  | none => []
  | some x => [x]

def SOp.operands : SOp → List Operand
  | .mov x | .box x | .nilck x | .notB x | .convI _ _ x | .convSS x | .convBS x | .convSB x | .faddr _ x | .fld _ _ _ x | .extract x _ | .len _ x | .cap x | .mkch _ x | .negI x | .markS x => [x]
  | .pick c a b => [c, a, b]
  | .new _ | .mkmap => []
  | .build _ ps => ps.map (·.2.2)
  | .bslice _ _ _ ps => ps.map (·.2)
  | .load _ _ a => [a]
  | .store _ a v => [a, v]
  | .ibin _ x y | .sbin _ x y | .eqT _ _ x y | .eqB _ x y | .eqP _ x y | .eqN x y => [x, y]
  | .mkfn _ a b => a ++ b
  | .mksl _ _ _ l c => [l, c]
  | .sliceS x lo hi => x :: (oo lo ++ oo hi)
  | .sliceL _ x lo hi mx => x :: (oo lo ++ oo hi ++ oo mx)
  | .sliceA _ _ x lo hi => x :: (oo lo ++ oo hi)
  | .iaddrL _ x i | .iaddrA _ _ x i | .idxS x i | .idxA _ _ _ x i | .look x i _ | .mentry x i | .mdel x i => [x, i]
  | .estore m s v | .mput m s v => [m, s, v]
  | .append _ _ _ s x | .appz _ _ _ s x | .copy _ s x => [s, x]
  | .minmax _ xs => xs
  | .call f args => f :: args

end Sx

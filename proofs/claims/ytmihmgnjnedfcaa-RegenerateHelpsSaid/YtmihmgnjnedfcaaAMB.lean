/- The logic AM: its operations, and what the machine's operations are as such. No Go program in it. -/
import Derived.Test.YtmihmgnjnedfcaaAMA
namespace Go.AM
open Go

inductive SX where
  | t (n : Nat)
  | k (v : AV)
  | f (i : FuncId)
  deriving Inhabited

def ev (fr : Fr) : SX → AV
  | .t n => fr n
  | .k v => v
  | .f i => .fn i [] []

inductive SO where
  | mv (x : SX)
  | pick (c a b : SX)
  | ld (x : SX) (n : Nat) (ag : Bool)
  | nc (x : SX)
  | bin (op : BinOp) (x y : SX)
  | isnil (ne : Bool) (x : SX)
  | not (x : SX)
  | neg (x : SX)
  | cvt (k : IntKind) (x : SX)
  | slc (x : SX) (lo hi mx : Option SX) (sz : Nat)
  | fadr (x : SX) (off : Nat)
  | fld (x : SX) (off n : Nat) (ag : Bool)
  | iadr (x i : SX) (sz : Nat)
  | iarr (x i : SX) (len sz : Nat)
  | ext (x : SX) (i : Nat)
  | len (x : SX)
  | min (x y : SX)
  | build (zero : List AV) (parts : List (Nat × Nat × SX))
  | mkf (f : FuncId) (first cap : List SX)
  | eqs (ne : Bool) (n : Nat) (x y : SX)
  | new (cells : List AV)
  | box (x : SX)
  | mkl (len sz : Nat) (zero : List AV) (parts : List (Nat × Nat × SX))
  | mks (len : SX) (sz : Nat) (zero : List AV)
  | app (s x : SX) (sz : Nat)
  | cpy (s x : SX) (sz : Nat)
  | st (x v : SX) (n : Nat)
  | call (f : SX) (xs : List SX)
  deriving Inhabited

structure SOp where
  g : Option (Nat × Bool)
  d : Option Nat
  o : SO
  deriving Inhabited

def splice (l : List AV) (off : Nat) (xs : List AV) : List AV := l.take off ++ xs ++ l.drop (off + xs.length)

def cellsAt (h : Hp) (x : AV) (n : Nat) : Option (List AV) :=
  match x with
  | .ref b off => match h b with
    | some cs => if off + n ≤ cs.length then some ((cs.drop off).take n) else none
    | none => none
  | .fp cs => if n ≤ cs.length then some (cs.take n) else none
  | _ => none

def ldv (cs : List AV) (ag : Bool) : Option AV := if ag then some (.agg cs) else match cs with
  | [v] => some v
  | _ => none

def afill (cells : List AV) : List (Nat × Nat × AV) → Option (List AV)
  | [] => some cells
  | (off, size, v) :: rest => if v.cells.length = size ∧ off + size ≤ cells.length then afill (splice cells off v.cells) rest else none

def isSlice : AV → Bool
  | .nils | .sl .. | .fs .. => true
  | _ => false

def binA (op : BinOp) (x y : AV) : Option AV :=
  match x, y with
  | .base (.int k a), .base (.int k' b) =>
    if k = k' then match op with
      | .add => some (.base (.int k (k.wrap (a + b))))
      | .sub => some (.base (.int k (k.wrap (a - b))))
      | .mul => some (.base (.int k (k.wrap (a * b))))
      | .quo => if b = 0 then none else some (.base (.int k (k.wrap (a.tdiv b))))
      | .rem => if b = 0 then none else some (.base (.int k (a.tmod b)))
      | .xor => some (.base (.int k (k.wrap (BitVec.ofInt k.bits a ^^^ BitVec.ofInt k.bits b).toNat)))
      | .eql => some (.base (.bool (a == b)))
      | .neq => some (.base (.bool (a != b)))
      | .lss => some (.base (.bool (decide (a < b))))
      | .leq => some (.base (.bool (decide (a ≤ b))))
      | .gtr => some (.base (.bool (decide (a > b))))
      | .geq => some (.base (.bool (decide (a ≥ b))))
      | _ => none
    else none
  | _, _ => none

def isNil : AV → Option Bool
  | .nils => some true
  | .sl .. | .fs .. => some false
  | _ => none

def natOf (x : AV) : Option Nat :=
  match x with
  | .base (.int _ n) => if 0 ≤ n then some n.toNat else none
  | _ => none

/-- A bound of a slice expression: the default where none stands. -/
def bound (fr : Fr) (x : Option SX) (dflt : Nat) : Option Nat :=
  match x with
  | some s => natOf (ev fr s)
  | none => some dflt

def slcA (x : AV) (lo hi : Nat) (mx : Option Nat) (sz : Nat) : Option AV :=
  match x with
  | .nils => if lo = 0 ∧ hi = 0 ∧ (mx = none ∨ mx = some 0) then some .nils else none
  | .sl b off len sz' => if sz' = sz ∧ lo ≤ hi ∧ hi ≤ len ∧ (mx = none ∨ mx = some hi) then some (.sl b (off + lo * sz) (hi - lo) sz) else none
  | .fs n cells => if lo ≤ hi ∧ hi ≤ n ∧ (mx = none ∨ mx = some hi) then some (.fs (hi - lo) ((cells.drop (lo * sz)).take ((hi - lo) * sz))) else none
  | _ => none

def lenA : AV → Option Nat
  | .nils => some 0
  | .sl _ _ n _ => some n
  | .fs n _ => some n
  | _ => none

def iadrA (x i : AV) (sz : Nat) : Option AV :=
  match i with
  | .base (.int _ i) => match x with
    | .sl b off len sz' => if sz' = sz ∧ 0 ≤ i ∧ i < len then some (.ref b (off + i.toNat * sz)) else none
    | .fs n cells => if 0 ≤ i ∧ i < n then some (.fp (cells.drop (i.toNat * sz))) else none
    | _ => none
  | _ => none

def fadrA (x : AV) (off : Nat) : Option AV :=
  match x with
  | .ref b o => some (.ref b (o + off))
  | .fp cells => some (.fp (cells.drop off))
  | _ => none

def iarrA (x i : AV) (len sz : Nat) : Option AV :=
  match i with
  | .base (.int _ i) => if 0 ≤ i ∧ i < len then fadrA x (i.toNat * sz) else none
  | _ => none

def eqsA : List AV → List AV → Option Bool
  | [], [] => some true
  | .base (.int k a) :: xs, .base (.int k' b) :: ys => if k = k' then (eqsA xs ys).map fun r => a == b && r else none
  | _, _ => none

/-- What an operation comes to that leaves memory alone. -/
def det (o : SO) (fr : Fr) (h : Hp) : Option AV :=
  match o with
  | .mv x => some (ev fr x)
  | .pick c a b => match ev fr c with
    | .base (.bool t) => some (if t then ev fr a else ev fr b)
    | _ => none
  | .ld x n ag => (cellsAt h (ev fr x) n).bind (ldv · ag)
  | .nc x => match ev fr x with
    | .ref b o => some (.ref b o)
    | .fp cs => some (.fp cs)
    | _ => none
  | .bin op x y => binA op (ev fr x) (ev fr y)
  | .isnil ne x => (isNil (ev fr x)).map fun r => .base (.bool (r != ne))
  | .not x => match ev fr x with
    | .base (.bool t) => some (.base (.bool !t))
    | _ => none
  | .neg x => match ev fr x with
    | .base (.int k n) => some (.base (.int k (k.wrap (0 - n))))
    | _ => none
  | .cvt k x => match ev fr x with
    | .base (.int _ n) => some (.base (.int k (k.wrap n)))
    | _ => none
  | .slc x lo hi mx sz =>
    match lenA (ev fr x) with
    | some n => match bound fr lo 0, bound fr hi n with
      | some l, some g => match mx with
        | none => slcA (ev fr x) l g none sz
        | some m => match natOf (ev fr m) with
          | some m => slcA (ev fr x) l g (some m) sz
          | none => none
      | _, _ => none
    | none => none
  | .fadr x off => fadrA (ev fr x) off
  | .fld x off n ag => match ev fr x with
    | .agg cs => if off + n ≤ cs.length then ldv ((cs.drop off).take n) ag else none
    | _ => none
  | .iadr x i sz => iadrA (ev fr x) (ev fr i) sz
  | .iarr x i len sz => iarrA (ev fr x) (ev fr i) len sz
  | .ext x i => match ev fr x with
    | .tup vs => vs[i]?
    | _ => none
  | .len x => (lenA (ev fr x)).map fun (n : Nat) => .base (.int .i64 n)
  | .min x y => match ev fr x, ev fr y with
    | .base (.int k a), .base (.int k' b) => if k = k' then some (.base (.int k (if b < a then b else a))) else none
    | _, _ => none
  | .build zero parts => (afill zero (parts.map fun (a, b, x) => (a, b, ev fr x))).map .agg
  | .mkf f first cap => some (.fn f (first.map (ev fr)) (cap.map (ev fr)))
  | .eqs ne n x y => match ev fr x, ev fr y with
    | .agg xs, .agg ys => if xs.length = n then (eqsA xs ys).map fun r => .base (.bool (r != ne)) else none
    | _, _ => none
  | _ => none

def zeros (n : Nat) (zero : List AV) : List AV := (List.replicate n zero).flatten

/-- An operation that makes memory: its cells, and the value for the block's number. -/
def mem (o : SO) (fr : Fr) : Option (List AV × (Nat → AV)) :=
  match o with
  | .new cells => if cells.all one then some (cells, fun b => .ref b 0) else none
  | .box x => if (ev fr x).cells.all one then some ((ev fr x).cells, fun b => .ref b 0) else none
  | .mkl len sz zero parts => match afill zero (parts.map fun (a, b, x) => (a, b, ev fr x)) with
    | some cs => if cs.all one then some (cs, fun b => .sl b 0 len sz) else none
    | none => none
  | .mks len sz zero => match ev fr len with
    | .base (.int .i64 n) => if 0 ≤ n ∧ n ≤ 4294967296 ∧ zero.all one then some (zeros n.toNat zero, fun b => .sl b 0 n.toNat sz) else none
    | _ => none
  | _ => none

/-- The cells of a slice that is read. -/
def readS (h : Hp) (x : AV) (sz : Nat) : Option (Nat × List AV) :=
  match x with
  | .nils => some (0, [])
  | .fs n cells => if n * sz ≤ cells.length then some (n, cells.take (n * sz)) else none
  | .sl b off len sz' => match h b with
    | some cs => if sz' = sz ∧ off + len * sz ≤ cs.length then some (len, (cs.drop off).take (len * sz)) else none
    | none => none
  | _ => none

def updO (fr : Fr) (d : Option Nat) (v : AV) : Fr := match d with
  | some d => upd fr d v
  | none => fr

end Go.AM

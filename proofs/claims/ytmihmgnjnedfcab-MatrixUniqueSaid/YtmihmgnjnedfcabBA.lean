import Derived.Calls
import Derived.Orders
import Derived.Below
import Derived.WalkKit
import Derived.Laws.Cells
import Derived.Deep.AppendSrc
import Derived.Laws.MakeOwn
import Derived.Laws.CopyRow
import Derived.Laws.Tables
import Derived.Laws.Slices
import Derived.Laws.StructEq
import Derived.IntWalk
import Derived.Deep.LoopGhost

section
/- The logic AM: abstract values and heaps, and how they relate to the machine's values and worlds. No Go program in it. -/
namespace Go.AM
open Go

/-- Abstract values. 'fs', 'fp': a slice, a pointer to memory that nobody writes any more. 'sl', 'ref': into a live block. -/
inductive AV where
  | base (v : Value)
  | nilp
  | nils
  | ref (b off : Nat)
  | sl (b off len sz : Nat)
  | fp (cells : List AV)
  | fs (n : Nat) (cells : List AV)
  | agg (cells : List AV)
  | tup (vs : List AV)
  | fn (f : FuncId) (first cap : List AV)
  deriving Inhabited

abbrev Hp := Nat → Option (List AV)
abbrev Fr := Nat → AV

def hset (h : Hp) (b : Nat) (cs : List AV) : Hp := fun x => if x = b then some cs else h x
def hdel (h : Hp) (b : Nat) : Hp := fun x => if x = b then none else h x
def hun (h g : Hp) : Hp := fun x => match h x with | some cs => some cs | none => g x
def hemp : Hp := fun _ => none
def upd (fr : Fr) (d : Nat) (v : AV) : Fr := fun x => if x = d then v else fr x

def AV.cells : AV → List AV
  | .agg cs => cs
  | v => [v]

/-- A value of one cell that leads nowhere. -/
def flat : Value → Bool
  | .bool _ | .int _ _ | .string _ | .nilFunc | .nilIface => true
  | _ => false

/-- An abstract value of one cell. -/
def one : AV → Bool
  | .agg _ | .tup _ => false
  | _ => true

/-- What an abstract value says of a value, in a world, beside the live blocks 'h' and the blocks 'T' that others hold. -/
inductive V (w : World) (h : Hp) (T : Nat → Prop) : AV → Value → Prop
  | base (v : Value) (hv : flat v = true) : V w h T (.base v) v
  | nilp : V w h T .nilp (.pointer none)
  | nils : V w h T .nils (.slice none 0 0)
  | ref (b off : Nat) (hb : b < w.heap.size) : V w h T (.ref b off) (.pointer (some ⟨b, off, none⟩))
  | sl (b off len sz cap : Nat) (c : Array Value) (e : TypeId) (f : Nat × Nat) (hb : w.heap[b]? = some (.cells c e f)) (hc : off + cap * sz ≤ c.size) (hl : len ≤ cap) :
      V w h T (.sl b off len sz) (.slice (some ⟨b, off, none⟩) len cap)
  | sl0 (b off sz : Nat) (a : Addr) : V w h T (.sl b off 0 sz) (.slice (some a) 0 0)
  | fp (cells : List AV) (b off : Nat) (c : Array Value) (e : TypeId) (f : Nat × Nat) (vs : Nat → Value) (hb : w.heap[b]? = some (.cells c e f)) (hh : h b = none) (hT : ¬ T b) (h1 : cells.all one = true)
      (hc : ∀ j, j < cells.length → c[off + j]? = some (vs j)) (hv : ∀ (j : Nat) (hj : j < cells.length), V w h T cells[j] (vs j)) :
      V w h T (.fp cells) (.pointer (some ⟨b, off, none⟩))
  | fs (n : Nat) (cells : List AV) (b off cap : Nat) (c : Array Value) (e : TypeId) (f : Nat × Nat) (vs : Nat → Value) (hb : w.heap[b]? = some (.cells c e f)) (hh : h b = none) (hT : ¬ T b) (h1 : cells.all one = true)
      (hc : ∀ j, j < cells.length → c[off + j]? = some (vs j)) (hv : ∀ (j : Nat) (hj : j < cells.length), V w h T cells[j] (vs j)) (hn : n ≤ cap) :
      V w h T (.fs n cells) (.slice (some ⟨b, off, none⟩) n cap)
  | fs0 (a : Addr) (cap : Nat) : V w h T (.fs 0 []) (.slice (some a) 0 cap)
  | agg (cells : List AV) (vs : Array Value) (hl : vs.size = cells.length) (hv : ∀ (j : Nat) (hj : j < cells.length) (hk : j < vs.size), V w h T cells[j] vs[j]) :
      V w h T (.agg cells) (.agg vs)
  | tup (cells : List AV) (vs : Array Value) (hl : vs.size = cells.length) (hv : ∀ (j : Nat) (hj : j < cells.length) (hk : j < vs.size), V w h T cells[j] vs[j]) :
      V w h T (.tup cells) (.tuple vs)
  | fn (f : FuncId) (first cap : List AV) (vs us : Array Value) (hl : vs.size = first.length) (hv : ∀ (j : Nat) (hj : j < first.length) (hk : j < vs.size), V w h T first[j] vs[j])
      (hl2 : us.size = cap.length) (hv2 : ∀ (j : Nat) (hj : j < cap.length) (hk : j < us.size), V w h T cap[j] us[j]) :
      V w h T (.fn f first cap) (.func (.func f) vs us)

/-- The live blocks are in the world. -/
structure HR (w : World) (h : Hp) (T : Nat → Prop) : Prop where
  blk : ∀ (b : Nat) (cs : List AV), h b = some cs → ∃ (c : Array Value) (e : TypeId), w.heap[b]? = some (.cells c e (0, 0)) ∧ cs.length ≤ c.size ∧ cs.all one = true ∧
    ∀ (j : Nat) (hj : j < cs.length), ∃ v, c[j]? = some v ∧ V w h T cs[j] v
  held : ∀ b, T b → b < w.heap.size ∧ h b = none

/-- How a world and its live blocks may move on. -/
structure Evo (h : Hp) (w : World) (h' : Hp) (w' : World) : Prop where
  os : w'.os = w.os
  tape : w'.tape = w.tape
  output : w'.output = w.output
  size : w.heap.size ≤ w'.heap.size
  same : ∀ i, i < w.heap.size → h i = none → w'.heap[i]? = w.heap[i]?
  shape : ∀ (i : Nat) (c : Array Value) (e : TypeId) (f : Nat × Nat), w.heap[i]? = some (.cells c e f) → ∃ c' : Array Value, w'.heap[i]? = some (.cells c' e f) ∧ c'.size = c.size
  dom : ∀ b, h' b ≠ none → h b ≠ none ∨ w.heap.size ≤ b

theorem Evo.refl (h : Hp) (w : World) : Evo h w h w := ⟨rfl, rfl, rfl, Nat.le_refl _, fun _ _ _ => rfl, fun _ c _ _ hb => ⟨c, hb, rfl⟩, fun _ hb => .inl hb⟩

theorem Evo.trans {h0 h1 h2 : Hp} {w0 w1 w2 : World} (a : Evo h0 w0 h1 w1) (b : Evo h1 w1 h2 w2) : Evo h0 w0 h2 w2 := by
  refine ⟨b.os.trans a.os, b.tape.trans a.tape, b.output.trans a.output, Nat.le_trans a.size b.size, fun i hi hn => ?_, fun i c e f hb => ?_, fun x hx => ?_⟩
  · have h1n : h1 i = none := by
      cases hh : h1 i with
      | none => rfl
      | some cs => rcases a.dom i (by rw [hh]; simp) with h | h
                   · exact absurd hn h
                   · omega
    rw [b.same i (Nat.lt_of_lt_of_le hi a.size) h1n, a.same i hi hn]
  · obtain ⟨c1, h1c, hs1⟩ := a.shape i c e f hb
    obtain ⟨c2, h2c, hs2⟩ := b.shape i c1 e f h1c
    exact ⟨c2, h2c, hs2.trans hs1⟩
  · rcases b.dom x hx with h | h
    · exact a.dom x h
    · exact .inr (Nat.le_trans a.size h)

/-- What is said of a value stays true. -/
theorem V.mono {w w' : World} {h h' : Hp} {T : Nat → Prop} (ev : Evo h w h' w') {x : AV} {v : Value} (hv : V w h T x v) : V w' h' T x v := by
  have keep : ∀ b c e f, w.heap[b]? = some (.cells c e f) → h b = none → w'.heap[b]? = some (.cells c e f) ∧ h' b = none := by
    intro b c e f hb hh
    have hlt : b < w.heap.size := (Array.getElem?_eq_some_iff.1 hb).1
    refine ⟨(ev.same b hlt hh).trans hb, ?_⟩
    cases hh' : h' b with
    | none => rfl
    | some cs => rcases ev.dom b (by rw [hh']; simp) with g | g
                 · exact absurd hh g
                 · omega
  induction hv with
  | base v hv => exact .base v hv
  | nilp => exact .nilp
  | nils => exact .nils
  | ref b off hb => exact .ref b off (Nat.lt_of_lt_of_le hb ev.size)
  | sl b off len sz cap c e f hb hc hl =>
    obtain ⟨c', hb', hs⟩ := ev.shape b c e f hb
    exact .sl b off len sz cap c' e f hb' (by rw [hs]; exact hc) hl
  | sl0 b off sz a => exact .sl0 b off sz a
  | fp cells b off c e f vs hb hh hT h1 hc _ ih =>
    obtain ⟨hb', hh'⟩ := keep b c e f hb hh
    exact .fp cells b off c e f vs hb' hh' hT h1 hc ih
  | fs n cells b off cap c e f vs hb hh hT h1 hc _ hn ih =>
    obtain ⟨hb', hh'⟩ := keep b c e f hb hh
    exact .fs n cells b off cap c e f vs hb' hh' hT h1 hc ih hn
  | fs0 a cap => exact .fs0 a cap
  | agg cells vs hl _ ih => exact .agg cells vs hl ih
  | tup cells vs hl _ ih => exact .tup cells vs hl ih
  | fn f first cap vs us hl _ hl2 _ ih1 ih2 => exact .fn f first cap vs us hl ih1 hl2 ih2

theorem HR.heldMono {w w' : World} {h h' : Hp} {T : Nat → Prop} (hr : HR w h T) (ev : Evo h w h' w') : ∀ b, T b → b < w'.heap.size ∧ h' b = none := fun b hb => by
  obtain ⟨h1, h2⟩ := hr.held b hb
  refine ⟨Nat.lt_of_lt_of_le h1 ev.size, ?_⟩
  cases hh : h' b with
  | none => rfl
  | some cs => rcases ev.dom b (by rw [hh]; simp) with g | g
               · exact absurd h2 g
               · omega

/-- The frame: the abstract one tells of each slot. -/
structure Rel (T : Nat → Prop) (N : Nat) (fr : Fr) (h : Hp) (a : Act) (w : World) : Prop where
  slots : ∀ t, t < N → V w h T (fr t) (a.tmps.getD t undef)
  size : a.tmps.size = N
  defers : a.defers = []
  heap : HR w h T

end Go.AM
end

section
/- The logic AM: its operations, and what the machine's operations are as such. No Go program in it. -/
namespace Go.AM
open Go

inductive SX where
  | t (n : Nat)
  | k (v : AV)
  | f (i : FuncId)
  deriving Inhabited

def ev (fr : Fr) : SX → AV
  | .t n => fr n
  | .k v => v
  | .f i => .fn i [] []

inductive SO where
  | mv (x : SX)
  | pick (c a b : SX)
  | ld (x : SX) (n : Nat) (ag : Bool)
  | nc (x : SX)
  | bin (op : BinOp) (x y : SX)
  | isnil (ne : Bool) (x : SX)
  | not (x : SX)
  | neg (x : SX)
  | cvt (k : IntKind) (x : SX)
  | slc (x : SX) (lo hi mx : Option SX) (sz : Nat)
  | fadr (x : SX) (off : Nat)
  | fld (x : SX) (off n : Nat) (ag : Bool)
  | iadr (x i : SX) (sz : Nat)
  | iarr (x i : SX) (len sz : Nat)
  | ext (x : SX) (i : Nat)
  | len (x : SX)
  | min (x y : SX)
  | build (zero : List AV) (parts : List (Nat × Nat × SX))
  | mkf (f : FuncId) (first cap : List SX)
  | eqs (ne : Bool) (n : Nat) (x y : SX)
  | new (cells : List AV)
  | box (x : SX)
  | mkl (len sz : Nat) (zero : List AV) (parts : List (Nat × Nat × SX))
  | mks (len : SX) (sz : Nat) (zero : List AV)
  | app (s x : SX) (sz : Nat)
  | cpy (s x : SX) (sz : Nat)
  | st (x v : SX) (n : Nat)
  | call (f : SX) (xs : List SX)
  deriving Inhabited

structure SOp where
  g : Option (Nat × Bool)
  d : Option Nat
  o : SO
  deriving Inhabited

def splice (l : List AV) (off : Nat) (xs : List AV) : List AV := l.take off ++ xs ++ l.drop (off + xs.length)

def cellsAt (h : Hp) (x : AV) (n : Nat) : Option (List AV) :=
  match x with
  | .ref b off => match h b with
    | some cs => if off + n ≤ cs.length then some ((cs.drop off).take n) else none
    | none => none
  | .fp cs => if n ≤ cs.length then some (cs.take n) else none
  | _ => none

def ldv (cs : List AV) (ag : Bool) : Option AV := if ag then some (.agg cs) else match cs with
  | [v] => some v
  | _ => none

def afill (cells : List AV) : List (Nat × Nat × AV) → Option (List AV)
  | [] => some cells
  | (off, size, v) :: rest => if v.cells.length = size ∧ off + size ≤ cells.length then afill (splice cells off v.cells) rest else none

def isSlice : AV → Bool
  | .nils | .sl .. | .fs .. => true
  | _ => false

def binA (op : BinOp) (x y : AV) : Option AV :=
  match x, y with
  | .base (.int k a), .base (.int k' b) =>
    if k = k' then match op with
      | .add => some (.base (.int k (k.wrap (a + b))))
      | .sub => some (.base (.int k (k.wrap (a - b))))
      | .mul => some (.base (.int k (k.wrap (a * b))))
      | .quo => if b = 0 then none else some (.base (.int k (k.wrap (a.tdiv b))))
      | .rem => if b = 0 then none else some (.base (.int k (a.tmod b)))
      | .xor => some (.base (.int k (k.wrap (BitVec.ofInt k.bits a ^^^ BitVec.ofInt k.bits b).toNat)))
      | .eql => some (.base (.bool (a == b)))
      | .neq => some (.base (.bool (a != b)))
      | .lss => some (.base (.bool (decide (a < b))))
      | .leq => some (.base (.bool (decide (a ≤ b))))
      | .gtr => some (.base (.bool (decide (a > b))))
      | .geq => some (.base (.bool (decide (a ≥ b))))
      | _ => none
    else none
  | _, _ => none

def isNil : AV → Option Bool
  | .nils => some true
  | .sl .. | .fs .. => some false
  | _ => none

def natOf (x : AV) : Option Nat :=
  match x with
  | .base (.int _ n) => if 0 ≤ n then some n.toNat else none
  | _ => none

/-- A bound of a slice expression: the default where none stands. -/
def bound (fr : Fr) (x : Option SX) (dflt : Nat) : Option Nat :=
  match x with
  | some s => natOf (ev fr s)
  | none => some dflt

def slcA (x : AV) (lo hi : Nat) (mx : Option Nat) (sz : Nat) : Option AV :=
  match x with
  | .nils => if lo = 0 ∧ hi = 0 ∧ (mx = none ∨ mx = some 0) then some .nils else none
  | .sl b off len sz' => if sz' = sz ∧ lo ≤ hi ∧ hi ≤ len ∧ (mx = none ∨ mx = some hi) then some (.sl b (off + lo * sz) (hi - lo) sz) else none
  | .fs n cells => if lo ≤ hi ∧ hi ≤ n ∧ (mx = none ∨ mx = some hi) then some (.fs (hi - lo) ((cells.drop (lo * sz)).take ((hi - lo) * sz))) else none
  | _ => none

def lenA : AV → Option Nat
  | .nils => some 0
  | .sl _ _ n _ => some n
  | .fs n _ => some n
  | _ => none

def iadrA (x i : AV) (sz : Nat) : Option AV :=
  match i with
  | .base (.int _ i) => match x with
    | .sl b off len sz' => if sz' = sz ∧ 0 ≤ i ∧ i < len then some (.ref b (off + i.toNat * sz)) else none
    | .fs n cells => if 0 ≤ i ∧ i < n then some (.fp (cells.drop (i.toNat * sz))) else none
    | _ => none
  | _ => none

def fadrA (x : AV) (off : Nat) : Option AV :=
  match x with
  | .ref b o => some (.ref b (o + off))
  | .fp cells => some (.fp (cells.drop off))
  | _ => none

def iarrA (x i : AV) (len sz : Nat) : Option AV :=
  match i with
  | .base (.int _ i) => if 0 ≤ i ∧ i < len then fadrA x (i.toNat * sz) else none
  | _ => none

def eqsA : List AV → List AV → Option Bool
  | [], [] => some true
  | .base (.int k a) :: xs, .base (.int k' b) :: ys => if k = k' then (eqsA xs ys).map fun r => a == b && r else none
  | _, _ => none

/-- What an operation comes to that leaves memory alone. -/
def det (o : SO) (fr : Fr) (h : Hp) : Option AV :=
  match o with
  | .mv x => some (ev fr x)
  | .pick c a b => match ev fr c with
    | .base (.bool t) => some (if t then ev fr a else ev fr b)
    | _ => none
  | .ld x n ag => (cellsAt h (ev fr x) n).bind (ldv · ag)
  | .nc x => match ev fr x with
    | .ref b o => some (.ref b o)
    | .fp cs => some (.fp cs)
    | _ => none
  | .bin op x y => binA op (ev fr x) (ev fr y)
  | .isnil ne x => (isNil (ev fr x)).map fun r => .base (.bool (r != ne))
  | .not x => match ev fr x with
    | .base (.bool t) => some (.base (.bool !t))
    | _ => none
  | .neg x => match ev fr x with
    | .base (.int k n) => some (.base (.int k (k.wrap (0 - n))))
    | _ => none
  | .cvt k x => match ev fr x with
    | .base (.int _ n) => some (.base (.int k (k.wrap n)))
    | _ => none
  | .slc x lo hi mx sz =>
    match lenA (ev fr x) with
    | some n => match bound fr lo 0, bound fr hi n with
      | some l, some g => match mx with
        | none => slcA (ev fr x) l g none sz
        | some m => match natOf (ev fr m) with
          | some m => slcA (ev fr x) l g (some m) sz
          | none => none
      | _, _ => none
    | none => none
  | .fadr x off => fadrA (ev fr x) off
  | .fld x off n ag => match ev fr x with
    | .agg cs => if off + n ≤ cs.length then ldv ((cs.drop off).take n) ag else none
    | _ => none
  | .iadr x i sz => iadrA (ev fr x) (ev fr i) sz
  | .iarr x i len sz => iarrA (ev fr x) (ev fr i) len sz
  | .ext x i => match ev fr x with
    | .tup vs => vs[i]?
    | _ => none
  | .len x => (lenA (ev fr x)).map fun (n : Nat) => .base (.int .i64 n)
  | .min x y => match ev fr x, ev fr y with
    | .base (.int k a), .base (.int k' b) => if k = k' then some (.base (.int k (if b < a then b else a))) else none
    | _, _ => none
  | .build zero parts => (afill zero (parts.map fun (a, b, x) => (a, b, ev fr x))).map .agg
  | .mkf f first cap => some (.fn f (first.map (ev fr)) (cap.map (ev fr)))
  | .eqs ne n x y => match ev fr x, ev fr y with
    | .agg xs, .agg ys => if xs.length = n then (eqsA xs ys).map fun r => .base (.bool (r != ne)) else none
    | _, _ => none
  | _ => none

def zeros (n : Nat) (zero : List AV) : List AV := (List.replicate n zero).flatten

/-- An operation that makes memory: its cells, and the value for the block's number. -/
def mem (o : SO) (fr : Fr) : Option (List AV × (Nat → AV)) :=
  match o with
  | .new cells => if cells.all one then some (cells, fun b => .ref b 0) else none
  | .box x => if (ev fr x).cells.all one then some ((ev fr x).cells, fun b => .ref b 0) else none
  | .mkl len sz zero parts => match afill zero (parts.map fun (a, b, x) => (a, b, ev fr x)) with
    | some cs => if cs.all one then some (cs, fun b => .sl b 0 len sz) else none
    | none => none
  | .mks len sz zero => match ev fr len with
    | .base (.int .i64 n) => if 0 ≤ n ∧ n ≤ 4294967296 ∧ zero.all one then some (zeros n.toNat zero, fun b => .sl b 0 n.toNat sz) else none
    | _ => none
  | _ => none

/-- The cells of a slice that is read. -/
def readS (h : Hp) (x : AV) (sz : Nat) : Option (Nat × List AV) :=
  match x with
  | .nils => some (0, [])
  | .fs n cells => if n * sz ≤ cells.length then some (n, cells.take (n * sz)) else none
  | .sl b off len sz' => match h b with
    | some cs => if sz' = sz ∧ off + len * sz ≤ cs.length then some (len, (cs.drop off).take (len * sz)) else none
    | none => none
  | _ => none

def updO (fr : Fr) (d : Option Nat) (v : AV) : Fr := match d with
  | some d => upd fr d v
  | none => fr

end Go.AM
end

section
/- The logic AM: what an operation that leaves memory alone comes to is what the machine does. No Go program in it. -/
namespace Go.AM
open Go

def avc : Value → Option AV
  | .bool b => some (.base (.bool b))
  | .int k n => some (.base (.int k n))
  | .string s => some (.base (.string s))
  | .nilFunc => some (.base .nilFunc)
  | .nilIface => some (.base .nilIface)
  | .slice none 0 0 => some .nils
  | .pointer none => some .nilp
  | _ => none

def avx (N : Nat) : Operand → Option SX
  | .tmp t => if t < N then some (.t t) else none
  | .const v => (avc v).map .k
  | .func f => some (.f f)
  | .global _ => none

theorem V.avc {w : World} {h : Hp} {T : Nat → Prop} {v : Value} {x : AV} (hx : avc v = some x) : V w h T x v := by
  unfold AM.avc at hx
  split at hx <;> cases hx
  all_goals first | exact .base _ rfl | exact .nils | exact .nilp

theorem avc_one {v : Value} {x : AV} (hx : AM.avc v = some x) : one x = true := by
  unfold AM.avc at hx
  split at hx <;> cases hx <;> rfl

theorem V.ev {T : Nat → Prop} {N : Nat} {fr : Fr} {h : Hp} {a : Act} {w : World} (rel : Rel T N fr h a w) {x : Operand} {sx : SX} (hx : avx N x = some sx) : V w h T (ev fr sx) (a.eval x) := by
  cases x with
  | tmp t =>
    simp only [avx] at hx
    split at hx
    · rename_i ht
      injection hx with hx
      subst hx
      exact rel.slots t ht
    · cases hx
  | const v =>
    simp only [avx, Option.map_eq_some_iff] at hx
    obtain ⟨y, hy, rfl⟩ := hx
    exact V.avc hy
  | global g => cases hx
  | func f =>
    injection hx with hx
    subst hx
    exact .fn f [] [] #[] #[] rfl (fun j hj => by cases hj) rfl (fun j hj => by cases hj)

theorem V.one {w : World} {h : Hp} {T : Nat → Prop} {v : Value} {x : AV} (hv : V w h T x v) (h1 : one x = true) : v.oneCell' = true := by
  cases hv with
  | base v hf => cases v <;> simp_all [flat, Value.oneCell']
  | agg => cases h1
  | tup => cases h1
  | _ => rfl

theorem V.cells {w : World} {h : Hp} {T : Nat → Prop} {v : Value} {x : AV} (hv : V w h T x v) :
    v.cells.size = x.cells.length ∧ ∀ (j : Nat) (hj : j < x.cells.length) (hk : j < v.cells.size), V w h T x.cells[j] v.cells[j] := by
  cases hv with
  | agg cells vs hl hv => exact ⟨hl, hv⟩
  | tup cells vs hl hv =>
    refine ⟨rfl, fun j hj hk => ?_⟩
    have hj0 : j = 0 := by simp only [AV.cells, List.length_singleton] at hj; omega
    subst hj0
    exact .tup cells vs hl hv
  | base v hf =>
    have e : v.cells = #[v] := by cases v <;> simp_all [flat, Value.cells]
    refine ⟨by rw [e]; rfl, fun j hj hk => ?_⟩
    have hj0 : j = 0 := by simp only [AV.cells, List.length_singleton] at hj; omega
    subst hj0
    simp only [e, AV.cells, List.getElem_singleton, List.getElem_toArray]
    exact .base v hf
  | nilp =>
    refine ⟨rfl, fun j hj hk => ?_⟩
    have hj0 : j = 0 := by simp only [AV.cells, List.length_singleton] at hj; omega
    subst hj0
    exact .nilp
  | nils =>
    refine ⟨rfl, fun j hj hk => ?_⟩
    have hj0 : j = 0 := by simp only [AV.cells, List.length_singleton] at hj; omega
    subst hj0
    exact .nils
  | ref b off hb =>
    refine ⟨rfl, fun j hj hk => ?_⟩
    have hj0 : j = 0 := by simp only [AV.cells, List.length_singleton] at hj; omega
    subst hj0
    exact .ref b off hb
  | sl b off len sz cap c e f hb hc hl =>
    refine ⟨rfl, fun j hj hk => ?_⟩
    have hj0 : j = 0 := by simp only [AV.cells, List.length_singleton] at hj; omega
    subst hj0
    exact .sl b off len sz cap c e f hb hc hl
  | sl0 b off sz a =>
    refine ⟨rfl, fun j hj hk => ?_⟩
    have hj0 : j = 0 := by simp only [AV.cells, List.length_singleton] at hj; omega
    subst hj0
    exact .sl0 b off sz a
  | fp cells b off c e f vs hb hh hT h1 hc hv =>
    refine ⟨rfl, fun j hj hk => ?_⟩
    have hj0 : j = 0 := by simp only [AV.cells, List.length_singleton] at hj; omega
    subst hj0
    exact .fp cells b off c e f vs hb hh hT h1 hc hv
  | fs n cells b off cap c e f vs hb hh hT h1 hc hv hn =>
    refine ⟨rfl, fun j hj hk => ?_⟩
    have hj0 : j = 0 := by simp only [AV.cells, List.length_singleton] at hj; omega
    subst hj0
    exact .fs n cells b off cap c e f vs hb hh hT h1 hc hv hn
  | fs0 a cap =>
    refine ⟨rfl, fun j hj hk => ?_⟩
    have hj0 : j = 0 := by simp only [AV.cells, List.length_singleton] at hj; omega
    subst hj0
    exact .fs0 a cap
  | fn f first cap vs us hl hv hl2 hv2 =>
    refine ⟨rfl, fun j hj hk => ?_⟩
    have hj0 : j = 0 := by simp only [AV.cells, List.length_singleton] at hj; omega
    subst hj0
    exact .fn f first cap vs us hl hv hl2 hv2

/-- Cells that can be read at an address. -/
structure Cells (w : World) (h : Hp) (T : Nat → Prop) (b off : Nat) (cs : List AV) : Prop where
  get : ∃ vs : Nat → Value, ∀ (j : Nat) (hj : j < cs.length), w.cell? ⟨b, off + j, none⟩ = some (vs j) ∧ V w h T cs[j] (vs j)
  one : cs.all AM.one = true

theorem all_drop_take {p : AV → Bool} {l : List AV} (h : l.all p = true) (a b : Nat) : ((l.drop a).take b).all p = true := by
  rw [List.all_eq_true] at h ⊢
  exact fun x hx => h x (List.mem_of_mem_drop (List.mem_of_mem_take hx))

theorem Cells.of_frozen {w : World} {h : Hp} {T : Nat → Prop} {cells : List AV} {b off : Nat} {c : Array Value} {e : TypeId} {f : Nat × Nat} {vs : Nat → Value} (hb : w.heap[b]? = some (.cells c e f))
    (h1 : cells.all AM.one = true) (hc : ∀ j, j < cells.length → c[off + j]? = some (vs j)) (hv : ∀ (j : Nat) (hj : j < cells.length), V w h T cells[j] (vs j)) : Cells w h T b off cells :=
  ⟨⟨vs, fun j hj => ⟨by simp [World.cell?, hb, hc j hj], hv j hj⟩⟩, h1⟩

theorem Cells.of_live {w : World} {h : Hp} {T : Nat → Prop} {b : Nat} {cs : List AV} (hr : HR w h T) (hb : h b = some cs) : Cells w h T b 0 cs := by
  obtain ⟨c, e, hw, hl, h1, hv⟩ := hr.blk b cs hb
  refine ⟨⟨fun j => (c[j]?).getD undef, fun j hj => ?_⟩, h1⟩
  obtain ⟨v, hcv, hV⟩ := hv j hj
  simp only [World.cell?, hw, Nat.zero_add, hcv, Option.getD_some]
  exact ⟨rfl, hV⟩

theorem Cells.cut {w : World} {h : Hp} {T : Nat → Prop} {b off : Nat} {cs : List AV} (hc : Cells w h T b off cs) (i n : Nat) : Cells w h T b (off + i) ((cs.drop i).take n) := by
  obtain ⟨⟨vs, hg⟩, h1⟩ := hc
  refine ⟨⟨fun j => vs (i + j), fun j hj => ?_⟩, all_drop_take h1 i n⟩
  have hj' : i + j < cs.length := by simp only [List.length_take, List.length_drop] at hj; omega
  obtain ⟨g1, g2⟩ := hg (i + j) hj'
  rw [Nat.add_assoc]
  refine ⟨g1, ?_⟩
  rw [List.getElem_take, List.getElem_drop]
  exact g2

theorem cellsAt_sound {w : World} {h : Hp} {T : Nat → Prop} {x : AV} {v : Value} {n : Nat} {cs : List AV} (hr : HR w h T) (hv : V w h T x v) (hc : cellsAt h x n = some cs) :
    ∃ b off, v = .pointer (some ⟨b, off, none⟩) ∧ cs.length = n ∧ Cells w h T b off cs := by
  cases hv with
  | ref b off hb =>
    refine ⟨b, off, rfl, ?_⟩
    simp only [cellsAt] at hc
    cases hh : h b with
    | none => simp [hh] at hc
    | some cs0 =>
      simp only [hh] at hc
      split at hc
      · rename_i hle
        injection hc with hc
        subst hc
        refine ⟨by simp; omega, ?_⟩
        have := (Cells.of_live hr hh).cut off n
        simpa using this
      · cases hc
  | fp cells b off c e f vs hb hh hT h1 hcc hvv =>
    refine ⟨b, off, rfl, ?_⟩
    simp only [cellsAt] at hc
    split at hc
    · rename_i hle
      injection hc with hc
      subst hc
      refine ⟨by simp; omega, ?_⟩
      have := (Cells.of_frozen hb h1 hcc hvv).cut 0 n
      simpa using this
    · cases hc
  | _ => simp [cellsAt] at hc

def isAggD : TypeDesc → Bool
  | .struct _ | .array _ _ => true
  | _ => false

theorem run_isAgg {P : Program} {t : TypeId} {d : TypeDesc} (hd : P.underlying t = some d) (w : World) : (isAgg t).run P w = .ok (isAggD d) w := by
  simp only [isAgg, Sem.run_bind, run_underlying hd, Result.andThen_ok]
  cases d <;> rfl

def aggOf (P : Program) (t : TypeId) : Option Bool := (P.underlying t).map isAggD
def sizeT (P : Program) (t : TypeId) : Option Nat := (P.info? t).map (·.size)

theorem run_isAgg' {P : Program} {t : TypeId} {b : Bool} (hd : aggOf P t = some b) (w : World) : (isAgg t).run P w = .ok b w := by
  simp only [aggOf, Option.map_eq_some_iff] at hd
  obtain ⟨d, hd, he⟩ := hd
  rw [run_isAgg hd, ← he]

theorem run_sizeOf' {P : Program} {t : TypeId} {n : Nat} (hn : sizeT P t = some n) (w : World) : (sizeOf t).run P w = .ok n w := by
  simp only [sizeT, Option.map_eq_some_iff] at hn
  obtain ⟨i, hi, rfl⟩ := hn
  simp [sizeOf, typeInfo, hi]

theorem addr_add (b off j : Nat) : (⟨b, off, none⟩ : Addr).add j = ⟨b, off + j, none⟩ := by
  unfold Addr.add
  split <;> simp_all

theorem load_sound {P : Program} {w : World} {h : Hp} {T : Nat → Prop} {t : TypeId} {b off n : Nat} {ag : Bool} {cs : List AV} {r : AV} (hag : aggOf P t = some ag) (hn : ag = true → sizeT P t = some n)
    (hc : Cells w h T b off cs) (hl : cs.length = n) (hld : ldv cs ag = some r) : ∃ v, (loadVar t ⟨b, off, none⟩).run P w = .ok v w ∧ V w h T r v := by
  obtain ⟨⟨vs, hg⟩, h1⟩ := hc
  cases ag with
  | true =>
    simp only [ldv, if_true] at hld
    injection hld with hld
    subst hld
    refine ⟨.agg ((List.range n).map vs).toArray, ?_, ?_⟩
    · have := run_loadCells (P := P) w ⟨b, off, none⟩ n vs (fun j hj => by rw [addr_add]; exact (hg j (by omega)).1)
      simp [loadVar, run_isAgg' hag, run_sizeOf' (hn rfl), this]
    · refine .agg cs _ (by simp [hl]) (fun j hj hk => ?_)
      simp
      exact (hg j hj).2
  | false =>
    simp only [ldv] at hld
    match cs, hld with
    | [x], hld =>
      simp at hld
      subst hld
      obtain ⟨g1, g2⟩ := hg 0 (by simp)
      refine ⟨vs 0, ?_, g2⟩
      simp only [Nat.add_zero] at g1
      simp [loadVar, run_isAgg' hag, g1]

end Go.AM
end

section
/- The logic AM: which abstract operation stands for an operation of the machine; filling; splicing. No Go program in it. -/
namespace Go.AM
open Go

def optX (N : Nat) : Option Operand → Option (Option SX)
  | none => some none
  | some x => (avx N x).map some

def zeroT (P : Program) (t : TypeId) : Option (List AV) :=
  match P.info? t with
  | some i => match i.zero with
    | some z => z.cells.toList.mapM avc
    | none => none
  | none => none

def fieldT (P : Program) (t : TypeId) (f : Nat) : Option Field :=
  match P.underlying t with
  | some (.struct fs) => fs[f]?
  | _ => none

def elemT (P : Program) (t : TypeId) : Option TypeId :=
  match P.underlying t with
  | some (.slice e) => some e
  | _ => none

/-- A struct whose fields are whole numbers: how many. -/
def eqsFields (P : Program) : Nat → List Field → Bool
  | _, [] => true
  | k, f :: fs => f.name != "_" && f.offset == k && (match P.underlying f.type with
    | some (.int _) => true
    | _ => false) && eqsFields P (k + 1) fs

def eqsT (P : Program) (t : TypeId) : Option Nat :=
  match P.underlying t with
  | some (.struct fs) => if P.stoodInHeld t = false ∧ P.eqGuardType P.depth t = false ∧ eqsFields P 0 fs.toList = true then some fs.size else none
  | _ => none

def placesT (P : Program) (t : TypeId) : Option (List (Nat × Nat)) :=
  match P.underlying t with
  | some (.struct fs) => fs.toList.mapM (fun f => (P.info? f.type).map fun i => (f.offset, i.size))
  | _ => none

def intStruct (P : Program) (t : TypeId) : Option Nat :=
  match P.underlying t with
  | some (.struct fs) => if fs.toList.all (fun f => (match P.underlying f.type with | some (.int _) => true | _ => false) && (sizeT P f.type == some 1) && f.name != "_") &&
      (fs.toList.map (·.offset) == List.range fs.size) && !P.stoodInHeld t then some fs.size else none
  | _ => none

/-- The abstract operation. -/
def cop (P : Program) (N : Nat) (o : Oper) : Option SO :=
  match o.op with
  | .move x => (avx N x).map .mv
  | .assign x => (avx N x).map .mv
  | .pick c a b => match avx N c, avx N a, avx N b with
    | some c, some a, some b => some (.pick c a b)
    | _, _, _ => none
  | .load t x => match avx N x, aggOf P t, sizeT P t with
    | some x, some ag, some n => some (.ld x (if ag then n else 1) ag)
    | _, _, _ => none
  | .nilCheck x => (avx N x).map .nc
  | .binOp op t x y _ => match avx N x, avx N y, P.underlying t with
    | some x, some y, some (.int _) => some (.bin op x y)
    | some x, some (.k .nils), some (.slice _) => match op with
      | .eql => some (.isnil false x)
      | .neq => some (.isnil true x)
      | _ => none
    | some x, some y, some (.struct _) => match op, eqsT P t with
      | .eql, some n => some (.eqs false n x y)
      | .neq, some n => some (.eqs true n x y)
      | _, _ => none
    | _, _, _ => none
  | .unOp .not _ x => (avx N x).map .not
  | .unOp .neg _ x => (avx N x).map .neg
  | .convert s d x => match P.underlying s, P.underlying d, avx N x with
    | some (.int _), some (.int k), some x => some (.cvt k x)
    | _, _, _ => none
  | .slice t x lo hi mx => match (elemT P t).bind (sizeT P), avx N x, optX N lo, optX N hi, optX N mx with
    | some sz, some x, some lo, some hi, some mx => if mx.isSome && hi.isNone then none else some (.slc x lo hi mx sz)
    | _, _, _, _, _ => none
  | .fieldAddr t x f => match fieldT P t f, avx N x with
    | some fd, some x => match sizeT P fd.type with
      | some n => if n = 0 then none else some (.fadr x fd.offset)
      | none => none
    | _, _ => none
  | .field t x f => match fieldT P t f, avx N x with
    | some fd, some x => match sizeT P fd.type, aggOf P fd.type with
      | some n, some ag => some (.fld x fd.offset (if ag then n else 1) ag)
      | _, _ => none
    | _, _ => none
  | .indexAddr t x i => match P.underlying t, avx N x, avx N i with
    | some (.slice e), some x, some i => (sizeT P e).map fun sz => .iadr x i sz
    | some (.array n e), some x, some i => (sizeT P e).map fun sz => .iarr x i n sz
    | _, _, _ => none
  | .extract x i => (avx N x).map fun x => .ext x i
  | .build t parts => match zeroT P t, placesT P t, parts.toList.mapM (fun p => (avx N p.2).map fun x => (p.1, x)) with
    | some z, some pl, some ps => match ps.mapM (fun p => (pl[p.1]?).map fun q => (q.1, q.2, p.2)) with
      | some qs => some (.build z qs)
      | none => none
    | _, _, _ => none
  | .makeFunc (.func f) first cap => match first.toList.mapM (avx N), cap.toList.mapM (avx N) with
    | some a, some b => some (.mkf f a b)
    | _, _ => none
  | .alloc t => (zeroT P t).map .new
  | .box _ x => (avx N x).map .box
  | .buildSlice t len parts => match elemT P t with
    | some e => match sizeT P e, zeroT P e, parts.toList.mapM (fun p => (avx N p.2).map fun x => (p.1, x)) with
      | some sz, some z, some ps => if z.length = sz ∧ len * sz ≤ 1024 then some (.mkl len sz (zeros len z) (ps.map fun p => (p.1 * sz, sz, p.2))) else none
      | _, _, _ => none
    | none => none
  | .makeSlice t l c => match elemT P t, avx N l, avx N c with
    | some e, some (.t x), some (.t y) => match sizeT P e, zeroT P e, P.info? e with
      | some sz, some z, some i => if x = y ∧ z.length = sz ∧ i.bytes ≤ 4096 then some (.mks (.t x) sz z) else none
      | _, _, _ => none
    | _, _, _ => none
  | .store t x v => match sizeT P t, avx N x, avx N v with
    | some n, some x, some v => some (.st x v n)
    | _, _, _ => none
  | .call c => match c.callee with
    | .builtin .len => match c.args.toList, c.argTypes.toList with
      | [x], [t] => match elemT P t, avx N x with
        | some _, some x => some (.len x)
        | _, _ => none
      | _, _ => none
    | .builtin .min => match c.args.toList with
      | [x, y] => match avx N x, avx N y with
        | some x, some y => some (.min x y)
        | _, _ => none
      | _ => none
    | .builtin .append => match c.args.toList, c.argTypes.toList with
      | [s, x], [t, u] => match elemT P t, elemT P u, avx N s, avx N x with
        | some e, some _, some s, some x => match sizeT P e, zeroT P e, P.info? e with
          | some sz, some z, some i => if z.length = sz ∧ i.bytes ≤ 4096 then some (.app s x sz) else none
          | _, _, _ => none
        | _, _, _, _ => none
      | _, _ => none
    | .builtin .copy => match c.args.toList, c.argTypes.toList with
      | [s, x], [t, u] => match elemT P t, elemT P u, avx N s, avx N x with
        | some e, some _, some s, some x => if sizeT P e = some 1 then some (.cpy s x 1) else none
        | _, _, _, _ => none
      | _, _ => none
    | .value f => match avx N f, c.args.toList.mapM (avx N) with
      | some f, some xs => some (.call f xs)
      | _, _ => none
    | _ => none
  | _ => none

/-! ### Lists of values that stand for lists of abstract ones -/

/-- Cell by cell. -/
structure Cov (w : World) (h : Hp) (T : Nat → Prop) (cs : List AV) (A : Array Value) : Prop where
  size : A.size = cs.length
  val : ∀ (j : Nat) (hj : j < cs.length) (hk : j < A.size), V w h T cs[j] A[j]

theorem mapM_get {α β : Type} {f : α → Option β} : ∀ {l : List α} {r : List β}, l.mapM f = some r → r.length = l.length ∧ ∀ (j : Nat) (hj : j < l.length) (hk : j < r.length), f l[j] = some r[j]
  | [], r, h => by
    simp at h
    subst h
    exact ⟨rfl, fun j hj => by cases hj⟩
  | a :: l, r, h => by
    simp only [List.mapM_cons, Option.bind_eq_bind, Option.pure_def, Option.bind_eq_some_iff] at h
    obtain ⟨b, hb, rest, hr, he⟩ := h
    injection he with he
    subst he
    obtain ⟨h1, h2⟩ := mapM_get hr
    refine ⟨by simp [h1], fun j hj hk => ?_⟩
    cases j with
    | zero => simpa using hb
    | succ j => simpa using h2 j (by simpa using hj) (by simpa using hk)

theorem Cov.consts {w : World} {h : Hp} {T : Nat → Prop} {A : Array Value} {cs : List AV} (hm : A.toList.mapM avc = some cs) : Cov w h T cs A ∧ cs.all one = true := by
  obtain ⟨h1, h2⟩ := mapM_get hm
  refine ⟨⟨by simpa using h1.symm, fun j hj hk => V.avc (by have g := h2 j (by simpa using hk) hj; simp only [Array.getElem_toList] at g; exact g)⟩, ?_⟩
  rw [List.all_eq_true]
  intro x hx
  obtain ⟨j, hj, rfl⟩ := List.mem_iff_getElem.1 hx
  exact avc_one (h2 j (by omega) hj)

theorem Cov.operands {T : Nat → Prop} {N : Nat} {fr : Fr} {h : Hp} {a : Act} {w : World} (rel : Rel T N fr h a w) {xs : Array Operand} {sx : List SX} (hm : xs.toList.mapM (avx N) = some sx) :
    Cov w h T (sx.map (ev fr)) (xs.map a.eval) := by
  obtain ⟨h1, h2⟩ := mapM_get hm
  refine ⟨by simpa using h1.symm, fun j hj hk => ?_⟩
  simp only [List.getElem_map, Array.getElem_map]
  exact V.ev rel (by have g := h2 j (by simpa using hk) (by simpa using hj); simp only [Array.getElem_toList] at g; exact g)

theorem splice_length {l xs : List AV} {off : Nat} (h : off + xs.length ≤ l.length) : (splice l off xs).length = l.length := by
  simp [splice]
  omega

theorem splice_get {l xs : List AV} {off j : Nat} (h : off + xs.length ≤ l.length) (hj : j < l.length) :
    (splice l off xs)[j]? = if off ≤ j ∧ j < off + xs.length then xs[j - off]? else l[j]? := by
  unfold splice
  by_cases h1 : j < off
  · rw [List.append_assoc, List.getElem?_append_left (by simp; omega), List.getElem?_take_of_lt h1, if_neg (by omega)]
  · by_cases h2 : j < off + xs.length
    · rw [if_pos ⟨by omega, h2⟩, List.append_assoc, List.getElem?_append_right (by simp; omega), List.getElem?_append_left (by simp; omega)]
      congr 1
      simp
      omega
    · rw [if_neg (by omega), List.getElem?_append_right (by simp; omega), List.getElem?_drop]
      congr 1
      simp
      omega

theorem foldl_set (off : Nat) : ∀ (l : List Value) (k : Nat) (A : Array Value), ((l.zipIdx k).foldl (fun cs p => cs.setIfInBounds (off + p.2) p.1) A).size = A.size ∧
    ∀ j, j < A.size → ((l.zipIdx k).foldl (fun cs p => cs.setIfInBounds (off + p.2) p.1) A)[j]? = if off + k ≤ j ∧ j < off + k + l.length then l[j - off - k]? else A[j]?
  | [], k, A => ⟨rfl, fun j hj => by simp; omega⟩
  | v :: l, k, A => by
    obtain ⟨h1, h2⟩ := foldl_set off l (k + 1) (A.setIfInBounds (off + k) v)
    simp only [List.zipIdx_cons, List.foldl_cons]
    refine ⟨by simpa using h1, fun j hj => ?_⟩
    rw [h2 j (by simpa using hj)]
    by_cases h3 : j = off + k
    · subst h3
      rw [if_neg (by omega), if_pos (by simp), show off + k - off - k = 0 by omega]
      simp [hj]
    · by_cases h4 : off + (k + 1) ≤ j ∧ j < off + (k + 1) + l.length
      · rw [if_pos h4, if_pos ⟨by omega, by simp; omega⟩]
        have : j - off - k = (j - off - (k + 1)) + 1 := by omega
        rw [this, List.getElem?_cons_succ]
      · rw [if_neg h4, if_neg (by simp; omega), Array.getElem?_setIfInBounds_ne (by omega)]

theorem Cov.splice {w : World} {h : Hp} {T : Nat → Prop} {cs xs : List AV} {A B : Array Value} (hA : Cov w h T cs A) (hB : Cov w h T xs B) {off : Nat} (hle : off + xs.length ≤ cs.length) :
    Cov w h T (AM.splice cs off xs) (B.zipIdx.foldl (fun cs (p : Value × Nat) => cs.setIfInBounds (off + p.2) p.1) A) := by
  obtain ⟨h1, h2⟩ := foldl_set off B.toList 0 A
  have e : B.zipIdx.foldl (fun cs (p : Value × Nat) => cs.setIfInBounds (off + p.2) p.1) A = (B.toList.zipIdx 0).foldl (fun cs p => cs.setIfInBounds (off + p.2) p.1) A := by
    rw [← Array.foldl_toList, Array.toList_zipIdx]
  rw [e]
  refine ⟨by rw [h1, hA.size, splice_length hle], fun j hj hk => ?_⟩
  have hjl : j < cs.length := by rw [splice_length hle] at hj; exact hj
  have g1 := h2 j (by rw [hA.size]; exact hjl)
  have g2 := splice_get hle hjl
  rw [List.getElem?_eq_getElem hj] at g2
  rw [Array.getElem?_eq_getElem hk] at g1
  simp only [Nat.add_zero, Nat.sub_zero, Array.length_toList, hB.size] at g1
  by_cases hc : off ≤ j ∧ j < off + xs.length
  · rw [if_pos hc] at g1 g2
    have hx : j - off < xs.length := by omega
    have hb : j - off < B.size := by rw [hB.size]; exact hx
    rw [List.getElem?_eq_getElem hx] at g2
    rw [Array.getElem?_toList, Array.getElem?_eq_getElem hb] at g1
    injection g1 with g1
    injection g2 with g2
    rw [g1, g2]
    exact hB.val _ hx hb
  · rw [if_neg hc] at g1 g2
    have hb : j < A.size := by rw [hA.size]; exact hjl
    rw [List.getElem?_eq_getElem hjl] at g2
    rw [Array.getElem?_eq_getElem hb] at g1
    injection g1 with g1
    injection g2 with g2
    rw [g1, g2]
    exact hA.val _ hjl hb

/-- Parts that stand for parts. -/
def Parts (w : World) (h : Hp) (T : Nat → Prop) (place : Nat → Option (Nat × Nat)) : List (Nat × Nat × AV) → List (Nat × Value) → Prop
  | [], [] => True
  | (off, sz, x) :: r, (i, v) :: r' => place i = some (off, sz) ∧ V w h T x v ∧ Parts w h T place r r'
  | _, _ => False

theorem fill_sound {w : World} {h : Hp} {T : Nat → Prop} {place : Nat → Option (Nat × Nat)} : ∀ (ps : List (Nat × Nat × AV)) (qs : List (Nat × Value)) (cs cs' : List AV) (A : Array Value),
    Parts w h T place ps qs → Cov w h T cs A → afill cs ps = some cs' → ∃ A', Instr.fill place A qs = some A' ∧ Cov w h T cs' A'
  | [], [], cs, cs', A, _, hA, hf => by
    simp only [afill] at hf
    injection hf with hf
    subst hf
    exact ⟨A, rfl, hA⟩
  | (off, sz, x) :: r, (i, v) :: r', cs, cs', A, hp, hA, hf => by
    obtain ⟨hpl, hV, hp⟩ := hp
    simp only [afill] at hf
    split at hf
    · rename_i hc
      obtain ⟨g1, g2⟩ := V.cells hV
      have hB : Cov w h T x.cells v.cells := ⟨g1, g2⟩
      have hS := Cov.splice hA hB (off := off) (by omega)
      obtain ⟨A', hA', hC'⟩ := fill_sound r r' _ cs' _ hp hS hf
      refine ⟨A', ?_, hC'⟩
      simp only [Instr.fill, hpl]
      rw [if_neg (by simp [g1, hA.size]; omega)]
      exact hA'
    · cases hf
  | [], _ :: _, _, _, _, hp, _, _ => hp.elim
  | _ :: _, [], _, _, _, hp, _, _ => hp.elim

end Go.AM
end

section
/- The logic AM: an operation that leaves memory alone does on the machine what it does here. No Go program in it. -/
namespace Go.AM
open Go

section
variable {P : Program} {T : Nat → Prop} {N : Nat} {fr : Fr} {h : Hp} {a : Act} {w : World}

def DetOk (P : Program) (o : Oper) (h : Hp) (T : Nat → Prop) (a : Act) (w : World) (v : AV) : Prop := ∃ r, (execOp a.eval o).run P w = .ok (.value r) w ∧ V w h T v r

theorem d_move (rel : Rel T N fr h a w) {o : Oper} {x : Operand} {v : AV} (ho : o.op = .move x ∨ o.op = .assign x) {sx : SX} (hx : avx N x = some sx) (hd : det (.mv sx) fr h = some v) : DetOk P o h T a w v := by
  simp only [det, Option.some.injEq] at hd
  subst hd
  refine ⟨a.eval x, ?_, V.ev rel hx⟩
  rcases ho with ho | ho <;> simp [execOp, ho]

theorem d_pick (rel : Rel T N fr h a w) {o : Oper} {c x y : Operand} {v : AV} (ho : o.op = .pick c x y) {sc sx sy : SX} (hc : avx N c = some sc) (hx : avx N x = some sx) (hy : avx N y = some sy)
    (hd : det (.pick sc sx sy) fr h = some v) : DetOk P o h T a w v := by
  have V0 := V.ev rel hc
  simp only [det] at hd
  split at hd
  · rename_i t ht
    rw [ht] at V0
    injection hd with hd
    generalize hcv : a.eval c = cv at V0
    cases V0
    refine ⟨if t then a.eval x else a.eval y, ?_, ?_⟩
    · simp [execOp, ho, hcv, asBool]
    · subst hd
      cases t
      · exact V.ev rel hy
      · exact V.ev rel hx
  · cases hd

theorem d_ld (rel : Rel T N fr h a w) {o : Oper} {t : TypeId} {x : Operand} {v : AV} (ho : o.op = .load t x) {sx : SX} {ag : Bool} {n : Nat} (hx : avx N x = some sx) (hag : aggOf P t = some ag) (hn : sizeT P t = some n)
    (hd : det (.ld sx (if ag then n else 1) ag) fr h = some v) : DetOk P o h T a w v := by
  simp only [det, Option.bind_eq_some_iff] at hd
  obtain ⟨cs, hcs, hld⟩ := hd
  obtain ⟨b, off, hv, hl, hC⟩ := cellsAt_sound rel.heap (V.ev rel hx) hcs
  obtain ⟨r, hr, hV⟩ := load_sound (P := P) (t := t) (n := cs.length) hag (fun hag' => by rw [hag'] at hl; simp at hl; rw [hl]; exact hn) hC rfl hld
  refine ⟨r, ?_, hV⟩
  simp [execOp, ho, hv, Instr.loadAt, Instr.sureAddr, hr]

theorem d_nc (rel : Rel T N fr h a w) {o : Oper} {x : Operand} {v : AV} (ho : o.op = .nilCheck x) {sx : SX} (hx : avx N x = some sx) (hd : det (.nc sx) fr h = some v) : DetOk P o h T a w v := by
  have V0 := V.ev rel hx
  simp only [det] at hd
  generalize hxv : a.eval x = xv at V0
  split at hd
  · rename_i b off hb
    injection hd with hd
    subst hd
    rw [hb] at V0
    cases V0 with
    | ref b off hlt => exact ⟨_, by simp [execOp, ho, hxv], .ref b off hlt⟩
  · rename_i cs hcs
    injection hd with hd
    subst hd
    rw [hcs] at V0
    cases V0 with
    | fp cells b off c e f vs hb hh hT h1 hc hv => exact ⟨_, by simp [execOp, ho, hxv], .fp cs b off c e f vs hb hh hT h1 hc hv⟩
  · cases hd

theorem d_bin (rel : Rel T N fr h a w) {o : Oper} {op : BinOp} {t u : TypeId} {x y : Operand} {v : AV} (ho : o.op = .binOp op t x y u) {sx sy : SX} (hx : avx N x = some sx) (hy : avx N y = some sy)
    (hd : det (.bin op sx sy) fr h = some v) : DetOk P o h T a w v := by
  have V1 := V.ev rel hx
  have V2 := V.ev rel hy
  simp only [det] at hd
  generalize hxv : a.eval x = xv at V1
  generalize hyv : a.eval y = yv at V2
  unfold binA at hd
  split at hd
  · rename_i k m k' n h1 h2
    rw [h1] at V1
    rw [h2] at V2
    cases V1
    cases V2
    split at hd
    · rename_i hk
      subst hk
      cases op <;> simp only [Option.some.injEq, reduceCtorEq] at hd
      case quo =>
        split at hd
        · cases hd
        · rename_i hn
          injection hd with hd
          subst hd
          exact ⟨_, by simp [execOp, ho, hxv, hyv, eqGuard, binOp, Op.intDiv, hn], .base _ rfl⟩
      case rem =>
        split at hd
        · cases hd
        · rename_i hn
          injection hd with hd
          subst hd
          exact ⟨_, by simp [execOp, ho, hxv, hyv, eqGuard, binOp, Op.intDiv, hn], .base _ rfl⟩
      all_goals (subst hd; exact ⟨_, by simp [execOp, ho, hxv, hyv, eqGuard, binOp, Op.intArith, Op.intCmp, Op.intBits], .base _ rfl⟩)
    · cases hd
  · cases hd

theorem d_isnil (rel : Rel T N fr h a w) {o : Oper} {ne : Bool} {t u e : TypeId} {x y : Operand} {v : AV} (ho : o.op = .binOp (if ne then .neq else .eql) t x y u) (ht : P.underlying t = some (.slice e)) {sx : SX}
    (hx : avx N x = some sx) (hy : avx N y = some (.k .nils)) (hd : det (.isnil ne sx) fr h = some v) : DetOk P o h T a w v := by
  have V1 := V.ev rel hx
  have V2 := V.ev rel hy
  simp only [det, Option.map_eq_some_iff] at hd
  obtain ⟨r, hr, rfl⟩ := hd
  generalize hxv : a.eval x = xv at V1
  generalize hyv : a.eval y = yv at V2
  simp only [AM.ev] at V2
  cases V2
  have hs : ∀ (p : Option Addr) (l c : Nat), xv = .slice p l c → ∀ w' : World, (Op.equal t xv (.slice none 0 0)).run P w' = .ok p.isNone w' := by
    intro p l c hp w'
    subst hp
    unfold Op.equal Op.maxDepth Op.equalIn
    cases p <;> simp [run_underlying ht]
  have key : ∃ p l c, xv = .slice p l c ∧ p.isNone = r := by
    unfold isNil at hr
    split at hr
    · rename_i h1
      rw [h1] at V1
      injection hr with hr
      cases V1
      exact ⟨none, 0, 0, rfl, hr⟩
    · rename_i h1
      rw [h1] at V1
      injection hr with hr
      cases V1
      · exact ⟨_, _, _, rfl, hr⟩
      · exact ⟨_, _, _, rfl, hr⟩
    · rename_i h1
      rw [h1] at V1
      injection hr with hr
      cases V1
      · exact ⟨_, _, _, rfl, hr⟩
      · exact ⟨_, _, _, rfl, hr⟩
    · cases hr
  obtain ⟨p, l, c, hp, hpr⟩ := key
  have he := hs p l c hp
  subst hp
  refine ⟨.bool (r != ne), ?_, .base _ rfl⟩
  cases ne
  · simp only [Bool.false_eq_true, if_false] at ho
    simp [execOp, ho, hxv, hyv, eqGuard, binOp, he, hpr]
  · simp only [if_true] at ho
    simp [execOp, ho, hxv, hyv, eqGuard, binOp, he, hpr]

theorem eqsT_spec {t : TypeId} {n : Nat} (h : eqsT P t = some n) : ∃ fs : Array Field, P.underlying t = some (.struct fs) ∧ P.fieldsOf t = fs ∧ P.stoodInHeld t = false ∧ P.eqGuardType P.depth t = false ∧ eqsFields P 0 fs.toList = true ∧ fs.size = n := by
  unfold eqsT at h
  split at h
  · rename_i fs hu
    split at h
    · rename_i hc
      injection h with h
      exact ⟨fs, hu, by simp [Program.fieldsOf, hu], hc.1, hc.2.1, hc.2.2, h⟩
    · cases h
  · cases h

theorem run_eqsFields (w : World) (h : Hp) (T : Nat → Prop) (D : Nat) {us vs : Array Value} : ∀ (fs : List Field) (k : Nat) (xs ys : List AV) (r : Bool), eqsFields P k fs = true → xs.length = fs.length →
    (∀ (j : Nat) (hj : j < xs.length), ∃ u, us[k + j]? = some u ∧ V w h T xs[j] u) → (∀ (j : Nat) (hj : j < ys.length), ∃ u, vs[k + j]? = some u ∧ V w h T ys[j] u) → eqsA xs ys = some r →
    (Op.eqFields (D + 1) us vs fs).run P w = .ok r w
  | [], k, xs, ys, r, hf, hl, hu, hv, he => by
    have : xs = [] := List.eq_nil_of_length_eq_zero (by simpa using hl)
    subst this
    cases ys with
    | nil => simp only [eqsA, Option.some.injEq] at he; subst he; simp [Op.eqFields]
    | cons y ys => simp [eqsA] at he
  | f :: fs, k, xs, ys, r, hf, hl, hu, hv, he => by
    simp only [eqsFields, Bool.and_eq_true, bne_iff_ne, beq_iff_eq] at hf
    obtain ⟨⟨⟨h1, h2⟩, h3⟩, h4⟩ := hf
    split at h3
    case h_2 => cases h3
    rename_i ki hki
    unfold eqsA at he
    split at he
    · simp at hl
    · rename_i kk a xs' kk' b ys'
      split at he
      case isFalse => cases he
      rename_i hkk
      subst hkk
      simp only [Option.map_eq_some_iff] at he
      obtain ⟨r', he, rfl⟩ := he
      obtain ⟨u, g1, g2⟩ := hu 0 (by simp)
      obtain ⟨v, g3, g4⟩ := hv 0 (by simp)
      simp only [List.getElem_cons_zero, Nat.add_zero] at g1 g2 g3 g4
      cases g2
      cases g4
      have hpk : P.plainKey f.type = true := by simp [Program.plainKey, hki]
      have ih := run_eqsFields w h T D fs (k + 1) xs' ys' r' h4 (by simpa using hl)
        (fun j hj => by
          have := hu (j + 1) (by simpa using hj)
          simp only [List.getElem_cons_succ] at this
          rwa [show k + 1 + j = k + (j + 1) by omega])
        (fun j hj => by
          have := hv (j + 1) (by simpa using hj)
          simp only [List.getElem_cons_succ] at this
          rwa [show k + 1 + j = k + (j + 1) by omega]) he
      have p1 : (part f.type us f.offset).run P w = .ok (.int kk a) w := run_part_plain w hpk (by rw [h2]; exact g1)
      have p2 : (part f.type vs f.offset).run P w = .ok (.int kk b) w := run_part_plain w hpk (by rw [h2]; exact g3)
      simp only [Op.eqFields, ne_eq, h1, not_false_eq_true, if_true, Sem.run_bind, p1, p2, Result.andThen_ok, run_equalIn_int w D f.type kk ki a b hki]
      by_cases hab : a = b
      · subst hab
        simpa using ih
      · have : (a == b) = false := by simpa using hab
        simp [this]
    · cases he

theorem d_eqs (rel : Rel T N fr h a w) {o : Oper} {ne : Bool} {t u : TypeId} {x y : Operand} {v : AV} {n : Nat} (ho : o.op = .binOp (if ne then .neq else .eql) t x y u) (ht : eqsT P t = some n) {sx sy : SX}
    (hx : avx N x = some sx) (hy : avx N y = some sy) (hd : det (.eqs ne n sx sy) fr h = some v) : DetOk P o h T a w v := by
  have V1 := V.ev rel hx
  have V2 := V.ev rel hy
  obtain ⟨fs, g1, g2, g3, g4, g5, g6⟩ := eqsT_spec ht
  simp only [det] at hd
  generalize hxv : a.eval x = xv at V1
  generalize hyv : a.eval y = yv at V2
  split at hd
  · rename_i xs ys h1 h2
    rw [h1] at V1
    rw [h2] at V2
    split at hd
    case isFalse => cases hd
    rename_i hlen
    simp only [Option.map_eq_some_iff] at hd
    obtain ⟨r, hr, rfl⟩ := hd
    cases V1 with
    | agg _ us hl1 hv1 =>
      cases V2 with
      | agg _ vs hl2 hv2 =>
        have key := run_eqsFields (P := P) w h T 9998 (us := us) (vs := vs) fs.toList 0 xs ys r g5 (by simpa [g6] using hlen)
          (fun j hj => ⟨us[j]'(by omega), by simp, hv1 j hj (by omega)⟩) (fun j hj => ⟨vs[j]'(by omega), by simp, hv2 j hj (by omega)⟩) hr
        have heq : (Op.equalIn 10000 t (.agg us) (.agg vs)).run P w = .ok r w := by
          rw [run_equalIn_struct w 9999 t us vs (by rw [g2]; exact g1) g3, g2]
          exact key
        refine ⟨.bool (r != ne), ?_, .base _ rfl⟩
        cases ne
        · simp only [Bool.false_eq_true, if_false] at ho
          simp [execOp, ho, hxv, hyv, run_eqGuard_agg w _ t x y us vs g4, run_eql_struct w t us vs, heq]
        · simp only [if_true] at ho
          simp [execOp, ho, hxv, hyv, run_eqGuard_agg w _ t x y us vs g4, run_neq_struct w t us vs, heq]
  · cases hd

theorem d_not (rel : Rel T N fr h a w) {o : Oper} {t : TypeId} {x : Operand} {v : AV} (ho : o.op = .unOp .not t x) {sx : SX} (hx : avx N x = some sx) (hd : det (.not sx) fr h = some v) : DetOk P o h T a w v := by
  have V1 := V.ev rel hx
  simp only [det] at hd
  generalize hxv : a.eval x = xv at V1
  split at hd
  · rename_i b hb
    injection hd with hd
    subst hd
    rw [hb] at V1
    cases V1
    exact ⟨_, by simp [execOp, ho, hxv, Op.unary], .base _ rfl⟩
  · cases hd

theorem d_neg (rel : Rel T N fr h a w) {o : Oper} {t : TypeId} {x : Operand} {v : AV} (ho : o.op = .unOp .neg t x) {sx : SX} (hx : avx N x = some sx) (hd : det (.neg sx) fr h = some v) : DetOk P o h T a w v := by
  have V1 := V.ev rel hx
  simp only [det] at hd
  generalize hxv : a.eval x = xv at V1
  split at hd
  · rename_i k n hb
    injection hd with hd
    subst hd
    rw [hb] at V1
    cases V1
    exact ⟨_, by simp [execOp, ho, hxv, Op.unary, Op.intArith], .base _ rfl⟩
  · cases hd

theorem d_cvt (rel : Rel T N fr h a w) {o : Oper} {s d : TypeId} {x : Operand} {v : AV} (ho : o.op = .convert s d x) {k k' : IntKind} (hs : P.underlying s = some (.int k')) (hk : P.underlying d = some (.int k)) {sx : SX}
    (hx : avx N x = some sx) (hd : det (.cvt k sx) fr h = some v) : DetOk P o h T a w v := by
  have V1 := V.ev rel hx
  simp only [det] at hd
  generalize hxv : a.eval x = xv at V1
  split at hd
  · rename_i k1 n hb
    injection hd with hd
    subst hd
    rw [hb] at V1
    cases V1
    exact ⟨_, by simp [execOp, ho, hxv, Go.convert, run_underlying hs, run_underlying hk, Conv.intToInt], .base _ rfl⟩
  · cases hd

theorem d_ext (rel : Rel T N fr h a w) {o : Oper} {x : Operand} {i : Nat} {v : AV} (ho : o.op = .extract x i) {sx : SX} (hx : avx N x = some sx) (hd : det (.ext sx i) fr h = some v) : DetOk P o h T a w v := by
  have V1 := V.ev rel hx
  simp only [det] at hd
  generalize hxv : a.eval x = xv at V1
  split at hd
  · rename_i vs hb
    rw [hb] at V1
    cases V1 with
    | tup cells vs' hl hv =>
      obtain ⟨hi, he⟩ := List.getElem?_eq_some_iff.1 hd
      have hi' : i < vs'.size := by omega
      refine ⟨vs'[i], ?_, by rw [← he]; exact hv i hi hi'⟩
      simp [execOp, ho, hxv, Instr.extract, hi']
  · cases hd

theorem d_mkf (rel : Rel T N fr h a w) {o : Oper} {f : FuncId} {first cap : Array Operand} {v : AV} (ho : o.op = .makeFunc (.func f) first cap) {s1 s2 : List SX} (h1 : first.toList.mapM (avx N) = some s1)
    (h2 : cap.toList.mapM (avx N) = some s2) (hd : det (.mkf f s1 s2) fr h = some v) : DetOk P o h T a w v := by
  simp only [det, Option.some.injEq] at hd
  subst hd
  have c1 := Cov.operands rel h1
  have c2 := Cov.operands rel h2
  exact ⟨_, by simp [execOp, ho, Instr.makeFunc], .fn f _ _ _ _ c1.size c1.val c2.size c2.val⟩

theorem d_len (rel : Rel T N fr h a w) {o : Oper} {c : Call} {t e : TypeId} {x : Operand} {v : AV} (ho : o.op = .call c) (hc : c.callee = .builtin .len) (hargs : c.args.toList = [x]) (hts : c.argTypes.toList = [t])
    (ht : P.underlying t = some (.slice e)) {sx : SX} (hx : avx N x = some sx) (hd : det (.len sx) fr h = some v) : DetOk P o h T a w v := by
  have V1 := V.ev rel hx
  simp only [det, Option.map_eq_some_iff] at hd
  obtain ⟨n, hn, rfl⟩ := hd
  generalize hxv : a.eval x = xv at V1
  have ea : c.args = #[x] := by rw [← Array.toArray_toList (xs := c.args), hargs]
  have et : c.argTypes = #[t] := by rw [← Array.toArray_toList (xs := c.argTypes), hts]
  have key : ∃ p cp, xv = .slice p n cp := by
    unfold lenA at hn
    split at hn
    · rename_i h1
      rw [h1] at V1
      injection hn with hn
      subst hn
      cases V1
      exact ⟨_, _, rfl⟩
    · rename_i h1
      rw [h1] at V1
      injection hn with hn
      subst hn
      cases V1
      · exact ⟨_, _, rfl⟩
      · exact ⟨_, _, rfl⟩
    · rename_i h1
      rw [h1] at V1
      injection hn with hn
      subst hn
      cases V1
      · exact ⟨_, _, rfl⟩
      · exact ⟨_, _, rfl⟩
    · cases hn
  obtain ⟨p, cp, hp⟩ := key
  subst hp
  exact ⟨.int .i64 n, by simp [execOp, ho, resolve, hc, ea, et, hxv, invoke, builtin, Builtin.len_, run_underlying ht, goInt], .base _ rfl⟩

theorem d_min (rel : Rel T N fr h a w) {o : Oper} {c : Call} {x y : Operand} {v : AV} (ho : o.op = .call c) (hc : c.callee = .builtin .min) (hargs : c.args.toList = [x, y]) {sx sy : SX} (hx : avx N x = some sx)
    (hy : avx N y = some sy) (hd : det (.min sx sy) fr h = some v) : DetOk P o h T a w v := by
  have V1 := V.ev rel hx
  have V2 := V.ev rel hy
  simp only [det] at hd
  generalize hxv : a.eval x = xv at V1
  generalize hyv : a.eval y = yv at V2
  have ea : c.args = #[x, y] := by rw [← Array.toArray_toList (xs := c.args), hargs]
  split at hd
  · rename_i k m k' n h1 h2
    rw [h1] at V1
    rw [h2] at V2
    cases V1
    cases V2
    split at hd
    · rename_i hk
      subst hk
      injection hd with hd
      subst hd
      exact ⟨_, by simp [execOp, ho, resolve, hc, ea, hxv, hyv, invoke, builtin, Builtin.min_, Builtin.min2], .base _ rfl⟩
    · cases hd
  · cases hd

theorem d_fadr (rel : Rel T N fr h a w) {o : Oper} {t : TypeId} {f n : Nat} {fd : Field} {fs : Array Field} {x : Operand} {v : AV} (ho : o.op = .fieldAddr t x f) (ht : P.underlying t = some (.struct fs)) (hf : fs[f]? = some fd)
    (hn : sizeT P fd.type = some n) (h0 : n ≠ 0) {sx : SX} (hx : avx N x = some sx) (hd : det (.fadr sx fd.offset) fr h = some v) : DetOk P o h T a w v := by
  have V1 := V.ev rel hx
  simp only [det, fadrA] at hd
  generalize hxv : a.eval x = xv at V1
  have hrun : ∀ b off, (Instr.fieldAt t (.pointer (some ⟨b, off, none⟩)) f).run P w = .ok (.pointer (some ⟨b, off + fd.offset, none⟩)) w := by
    intro b off
    simp [Instr.fieldAt, run_underlying ht, hf, Instr.sureAddr, fieldPlace, run_sizeOf' hn, h0, addr_add]
  split at hd
  · rename_i b off hb
    injection hd with hd
    subst hd
    rw [hb] at V1
    cases V1 with
    | ref b off hlt => exact ⟨_, by simp [execOp, ho, hxv, hrun], .ref b _ hlt⟩
  · rename_i cells hcells
    injection hd with hd
    subst hd
    rw [hcells] at V1
    cases V1 with
    | fp cells b off c e g vs hb hh hT h1 hc hv =>
      refine ⟨.pointer (some ⟨b, off + fd.offset, none⟩), by simp [execOp, ho, hxv, hrun], .fp _ b (off + fd.offset) c e g (fun j => vs (fd.offset + j)) hb hh hT ?_ ?_ ?_⟩
      · rw [List.all_eq_true] at h1 ⊢
        exact fun x hx => h1 x (List.mem_of_mem_drop hx)
      · intro j hj
        rw [List.length_drop] at hj
        rw [Nat.add_assoc]
        exact hc _ (by omega)
      · intro j hj
        rw [List.length_drop] at hj
        rw [List.getElem_drop]
        exact hv _ (by omega)
  · cases hd

theorem run_index (b off : Nat) {t e : TypeId} {sz len cap : Nat} {k : IntKind} {i : Int} (ht : P.underlying t = some (.slice e)) (hs : sizeT P e = some sz) (h0 : 0 ≤ i) (h1 : i < len) :
    (Instr.indexAt t (.slice (some ⟨b, off, none⟩) len cap) (.int k i)).run P w = .ok (.pointer (some ⟨b, off + i.toNat * sz, none⟩)) w := by
  simp [Instr.indexAt, asIntOf, run_underlying ht, h0, h1, run_sizeOf' hs, addr_add]

theorem d_iadr (rel : Rel T N fr h a w) {o : Oper} {t e : TypeId} {sz : Nat} {x i : Operand} {v : AV} (ho : o.op = .indexAddr t x i) (ht : P.underlying t = some (.slice e)) (hs : sizeT P e = some sz) {sx si : SX}
    (hx : avx N x = some sx) (hi : avx N i = some si) (hd : det (.iadr sx si sz) fr h = some v) : DetOk P o h T a w v := by
  have V1 := V.ev rel hx
  have V2 := V.ev rel hi
  simp only [det, iadrA] at hd
  generalize hxv : a.eval x = xv at V1
  generalize hiv : a.eval i = iv at V2
  split at hd
  · rename_i k i hik
    rw [hik] at V2
    cases V2
    split at hd
    · rename_i b off len sz' hb
      rw [hb] at V1
      split at hd
      · rename_i hc
        obtain ⟨rfl, h0, h1⟩ := hc
        injection hd with hd
        subst hd
        cases V1 with
        | sl b off len sz cap c e f hbb hcc hl =>
          exact ⟨_, by simp [execOp, ho, hxv, hiv, run_index b off ht hs h0 h1], .ref b _ (Array.getElem?_eq_some_iff.1 hbb).1⟩
        | sl0 b off sz a => omega
      · cases hd
    · rename_i n cells hcells
      rw [hcells] at V1
      split at hd
      · rename_i hc
        obtain ⟨h0, h1⟩ := hc
        injection hd with hd
        subst hd
        cases V1 with
        | fs n cells b off cap c e f vs hb hh hT h1' hcc hv hn =>
          refine ⟨.pointer (some ⟨b, off + i.toNat * sz, none⟩), by simp [execOp, ho, hxv, hiv, run_index b off ht hs h0 h1], .fp _ b (off + i.toNat * sz) c e f (fun j => vs (i.toNat * sz + j)) hb hh hT ?_ ?_ ?_⟩
          · rw [List.all_eq_true] at h1' ⊢
            exact fun x hx => h1' x (List.mem_of_mem_drop hx)
          · intro j hj
            rw [List.length_drop] at hj
            rw [Nat.add_assoc]
            exact hcc _ (by omega)
          · intro j hj
            rw [List.length_drop] at hj
            rw [List.getElem_drop]
            exact hv _ (by omega)
        | fs0 a cap => omega
      · cases hd
    · cases hd
  · cases hd

theorem run_index_arr (b off : Nat) {t e : TypeId} {sz len : Nat} {k : IntKind} {i : Int} (ht : P.underlying t = some (.array len e)) (hs : sizeT P e = some sz) (h0 : 0 ≤ i) (h1 : i < len) :
    (Instr.indexAt t (.pointer (some ⟨b, off, none⟩)) (.int k i)).run P w = .ok (.pointer (some ⟨b, off + i.toNat * sz, none⟩)) w := by
  simp [Instr.indexAt, asIntOf, run_underlying ht, h0, h1, run_sizeOf' hs, addr_add, Instr.sureAddr]

theorem d_iarr (rel : Rel T N fr h a w) {o : Oper} {t e : TypeId} {sz len : Nat} {x i : Operand} {v : AV} (ho : o.op = .indexAddr t x i) (ht : P.underlying t = some (.array len e)) (hs : sizeT P e = some sz) {sx si : SX}
    (hx : avx N x = some sx) (hi : avx N i = some si) (hd : det (.iarr sx si len sz) fr h = some v) : DetOk P o h T a w v := by
  have V1 := V.ev rel hx
  have V2 := V.ev rel hi
  simp only [det, iarrA] at hd
  generalize hxv : a.eval x = xv at V1
  generalize hiv : a.eval i = iv at V2
  split at hd
  · rename_i k i hik
    rw [hik] at V2
    cases V2
    split at hd
    · rename_i hc
      obtain ⟨h0, h1⟩ := hc
      unfold fadrA at hd
      split at hd
      · rename_i b off hb
        injection hd with hd
        subst hd
        rw [hb] at V1
        cases V1 with
        | ref b off hlt => exact ⟨_, by simp [execOp, ho, hxv, hiv, run_index_arr b off ht hs h0 h1], .ref b _ hlt⟩
      · rename_i cells hcells
        injection hd with hd
        subst hd
        rw [hcells] at V1
        cases V1 with
        | fp cells b off c e g vs hb hh hT h1' hc hv =>
          refine ⟨.pointer (some ⟨b, off + i.toNat * sz, none⟩), by simp [execOp, ho, hxv, hiv, run_index_arr b off ht hs h0 h1], .fp _ b (off + i.toNat * sz) c e g (fun j => vs (i.toNat * sz + j)) hb hh hT ?_ ?_ ?_⟩
          · rw [List.all_eq_true] at h1' ⊢
            exact fun x hx => h1' x (List.mem_of_mem_drop hx)
          · intro j hj
            rw [List.length_drop] at hj
            rw [Nat.add_assoc]
            exact hc _ (by omega)
          · intro j hj
            rw [List.length_drop] at hj
            rw [List.getElem_drop]
            exact hv _ (by omega)
      · cases hd
    · cases hd
  · cases hd

theorem d_fld (rel : Rel T N fr h a w) {o : Oper} {t : TypeId} {f n : Nat} {ag : Bool} {fd : Field} {fs : Array Field} {x : Operand} {v : AV} (ho : o.op = .field t x f) (ht : P.underlying t = some (.struct fs)) (hf : fs[f]? = some fd)
    (hn : sizeT P fd.type = some n) (hag : aggOf P fd.type = some ag) {sx : SX} (hx : avx N x = some sx) (hd : det (.fld sx fd.offset (if ag then n else 1) ag) fr h = some v) : DetOk P o h T a w v := by
  have V1 := V.ev rel hx
  simp only [det] at hd
  generalize hxv : a.eval x = xv at V1
  split at hd
  · rename_i cs hcs
    rw [hcs] at V1
    cases V1 with
    | agg cells vs hl hv =>
      cases ag with
      | true =>
        simp only [if_true, ldv] at hd
        split at hd
        · rename_i hle
          injection hd with hd
          subst hd
          refine ⟨.agg (vs.extract fd.offset (fd.offset + n)), ?_, .agg _ _ (by simp; omega) (fun j hj hk => ?_)⟩
          · simp [execOp, ho, hxv, Instr.field, run_underlying ht, hf, asAgg, part, run_isAgg' hag, run_sizeOf' hn]
          · simp only [List.length_take, List.length_drop] at hj
            simp only [List.getElem_take, List.getElem_drop, Array.getElem_extract]
            exact hv _ (by omega) (by omega)
        · cases hd
      | false =>
        simp only [Bool.false_eq_true, if_false, ldv] at hd
        split at hd
        · rename_i hle
          have hlt : fd.offset < cs.length := by omega
          have hlt' : fd.offset < vs.size := by omega
          have e : (cs.drop fd.offset).take 1 = [cs[fd.offset]] := by
            rw [List.drop_eq_getElem_cons hlt]
            rfl
          rw [e] at hd
          simp only [Option.some.injEq] at hd
          subst hd
          refine ⟨vs[fd.offset], ?_, hv _ hlt hlt'⟩
          simp [execOp, ho, hxv, Instr.field, run_underlying ht, hf, asAgg, part, run_isAgg' hag, hlt']
        · cases hd
  · cases hd

theorem run_bound {k : IntKind} {n : Int} {y : Nat} {code : BoundsCode} (h0 : 0 ≤ n) (h1 : n ≤ y) : (Instr.sliceBound (.int k n) y code).run P w = .ok n.toNat w := by
  simp [Instr.sliceBound, asIntOf, h0, h1]

theorem natOf_V {x : AV} {v : Value} {n : Nat} (hV : V w h T x v) (hn : natOf x = some n) : ∃ k i, v = .int k i ∧ 0 ≤ i ∧ i.toNat = n := by
  unfold natOf at hn
  split at hn
  · rename_i k i
    split at hn
    · rename_i h0
      injection hn with hn
      cases hV
      exact ⟨k, i, rfl, h0, hn⟩
    · cases hn
  · cases hn

theorem d_slc (rel : Rel T N fr h a w) {o : Oper} {t e : TypeId} {sz : Nat} {x : Operand} {lo hi mx : Option Operand} {v : AV} (ho : o.op = .slice t x lo hi mx) (ht : P.underlying t = some (.slice e)) (hs : sizeT P e = some sz)
    {sx : SX} {slo shi smx : Option SX} (hx : avx N x = some sx) (hlo : optX N lo = some slo) (hhi : optX N hi = some shi) (hmx : optX N mx = some smx) (hm : ¬ (smx.isSome = true ∧ shi.isNone = true))
    (hd : det (.slc sx slo shi smx sz) fr h = some v) : DetOk P o h T a w v := by
  have V1 := V.ev rel hx
  simp only [det] at hd
  generalize hxv : a.eval x = xv at V1
  -- the bounds
  have opt : ∀ (y : Option Operand) (sy : Option SX) (d n : Nat), optX N y = some sy → bound fr sy d = some n → (y = none ∧ n = d) ∨ ∃ z k i, y = some z ∧ a.eval z = .int k i ∧ 0 ≤ i ∧ i.toNat = n := by
    intro y sy d n hy hb
    cases y with
    | none =>
      simp only [optX, Option.some.injEq] at hy
      subst hy
      simp only [bound, Option.some.injEq] at hb
      exact .inl ⟨rfl, hb.symm⟩
    | some z =>
      simp only [optX, Option.map_eq_some_iff] at hy
      obtain ⟨sz', hz, rfl⟩ := hy
      simp only [bound] at hb
      obtain ⟨k, i, h1, h2, h3⟩ := natOf_V (V.ev rel hz) hb
      exact .inr ⟨z, k, i, rfl, h1, h2, h3⟩
  -- the slice's own value
  split at hd
  case h_2 => cases hd
  rename_i n hn
  split at hd
  case h_2 => cases hd
  rename_i l g hl hg
  have hmb : ∃ m, (smx = none ∧ m = none ∨ ∃ s k, smx = some s ∧ natOf (ev fr s) = some k ∧ m = some k) ∧ slcA (ev fr sx) l g m sz = some v := by
    split at hd
    · exact ⟨none, .inl ⟨rfl, rfl⟩, hd⟩
    · rename_i s
      split at hd
      · rename_i k hk
        exact ⟨some k, .inr ⟨s, k, rfl, hk, rfl⟩, hd⟩
      · cases hd
  obtain ⟨m, hm1, hslc⟩ := hmb
  have key : ∀ (p : Option Addr) (cap : Nat), xv = .slice p n cap → l ≤ g → g ≤ n → n ≤ cap → (m = none ∨ m = some g) →
      ∃ c', (execOp a.eval o).run P w = .ok (.value (.slice (if c' = 0 then p else p.map (·.add (l * sz))) (g - l) c')) w ∧ g - l ≤ c' ∧ l + c' ≤ cap := by
    intro p cap hp hlg hgn hnc hmm
    subst hp
    have runs : ∀ (l h m : Nat), (Instr.sliceBounds true n cap (lo.map a.eval) (hi.map a.eval) (mx.map a.eval)).run P w = .ok (l, h, m) w → l ≤ m →
        (execOp a.eval o).run P w = .ok (.value (.slice (if m - l = 0 then p else p.map (·.add (l * sz))) (h - l) (m - l))) w := by
      intro l h m hr hlm
      have e1 : (if m = l then p else p.map (·.add (l * sz))) = (if m - l = 0 then p else p.map (·.add (l * sz))) := by
        by_cases hml : m = l
        · rw [if_pos hml, if_pos (by omega)]
        · rw [if_neg hml, if_neg (by omega)]
      simp [execOp, ho, hxv, Instr.sliceAt, Instr.slice, run_underlying ht, hr, run_sizeOf' hs, e1]
    rcases hm1 with ⟨hs1, hs2⟩ | ⟨s, k, hs1, hk, hs2⟩
    · -- no third index
      subst hs1
      have hmx0 : mx = none := by
        cases mx with
        | none => rfl
        | some z =>
          simp only [optX, Option.map_eq_some_iff] at hmx
          obtain ⟨_, _, h0⟩ := hmx
          cases h0
      subst hmx0
      refine ⟨cap - l, runs l g cap ?_ (by omega), by omega, by omega⟩
      rcases opt hi shi n g hhi hg with ⟨rfl, rfl⟩ | ⟨z, k, i, rfl, hz, h0, rfl⟩ <;> rcases opt lo slo 0 l hlo hl with ⟨rfl, rfl⟩ | ⟨z', k', i', rfl, hz', h0', rfl⟩
      · simp [Instr.sliceBounds]
      · simp [Instr.sliceBounds, hz', run_bound h0' (show i' ≤ (g : Nat) by omega)]
      · simp [Instr.sliceBounds, hz, run_bound h0 (show i ≤ (cap : Nat) by omega)]
      · simp [Instr.sliceBounds, hz, hz', run_bound h0 (show i ≤ (cap : Nat) by omega), run_bound h0' (show i' ≤ (i.toNat : Nat) by omega)]
    · subst hs1
      have hkg : k = g := by rcases hmm with hmm | hmm <;> rw [hs2] at hmm <;> simp at hmm; exact hmm
      subst hkg
      cases mx with
      | none => simp [optX] at hmx
      | some z3 =>
        simp only [optX, Option.map_eq_some_iff, Option.some.injEq] at hmx
        obtain ⟨s', hz3, rfl⟩ := hmx
        obtain ⟨k3, i3, hz3', h03, h3⟩ := natOf_V (V.ev rel hz3) hk
        refine ⟨k - l, runs l k k ?_ (by omega), by omega, by omega⟩
        rcases opt hi shi n k hhi hg with ⟨rfl, _⟩ | ⟨z, k1, i, rfl, hz, h0, hik⟩
        · exfalso
          apply hm
          simp only [optX, Option.some.injEq] at hhi
          subst hhi
          exact ⟨rfl, rfl⟩
        · rcases opt lo slo 0 l hlo hl with ⟨rfl, rfl⟩ | ⟨z', k', i', rfl, hz', h0', rfl⟩
          · simp [Instr.sliceBounds, hz, hz3', run_bound h03 (show i3 ≤ (cap : Nat) by omega), run_bound h0 (show i ≤ (k : Nat) by omega), h3, hik]
          · simp [Instr.sliceBounds, hz, hz', hz3', run_bound h03 (show i3 ≤ (cap : Nat) by omega), run_bound h0 (show i ≤ (k : Nat) by omega), run_bound h0' (show i' ≤ (k : Nat) by omega), h3, hik]
  unfold slcA at hslc
  split at hslc
  · rename_i hb
    rw [hb] at V1 hn
    simp only [lenA, Option.some.injEq] at hn
    split at hslc
    · rename_i hc
      obtain ⟨rfl, rfl, hc⟩ := hc
      injection hslc with hslc
      subst hslc
      cases V1
      obtain ⟨c', hrun, _, h2⟩ := key none 0 (by rw [← hn]) (Nat.le_refl _) (Nat.zero_le _) (by omega) hc
      have h0 : c' = 0 := by omega
      subst h0
      exact ⟨_, hrun, .nils⟩
    · cases hslc
  · rename_i b off len sz' hb
    rw [hb] at V1 hn
    simp only [lenA, Option.some.injEq] at hn
    subst hn
    split at hslc
    · rename_i hc
      obtain ⟨rfl, hlg, hgl, hc⟩ := hc
      injection hslc with hslc
      subst hslc
      cases V1 with
      | sl b off len sz cap c e f hbb hcc hlc =>
        obtain ⟨c', hrun, h1, h2⟩ := key (some ⟨b, off, none⟩) cap rfl hlg hgl hlc hc
        by_cases h0 : c' = 0
        · subst h0
          rw [if_pos rfl] at hrun
          have e0 : g - l = 0 := by omega
          rw [e0] at hrun ⊢
          exact ⟨_, hrun, .sl0 b _ _ _⟩
        · rw [if_neg h0] at hrun
          simp only [Option.map_some, addr_add] at hrun
          refine ⟨_, hrun, .sl b _ _ _ _ c e f hbb ?_ h1⟩
          have : l * sz' + c' * sz' ≤ cap * sz' := by rw [← Nat.add_mul]; exact Nat.mul_le_mul_right _ h2
          omega
      | sl0 b off sz p =>
        obtain ⟨c', hrun, h1, h2⟩ := key (some p) 0 rfl hlg hgl (Nat.le_refl _) hc
        have h0 : c' = 0 := by omega
        subst h0
        rw [if_pos rfl] at hrun
        have e0 : g - l = 0 := by omega
        rw [e0] at hrun ⊢
        exact ⟨_, hrun, .sl0 b _ _ _⟩
    · cases hslc
  · rename_i n' cells hb
    rw [hb] at V1 hn
    simp only [lenA, Option.some.injEq] at hn
    subst hn
    split at hslc
    · rename_i hc
      obtain ⟨hlg, hgl, hc⟩ := hc
      injection hslc with hslc
      subst hslc
      cases V1 with
      | fs n cells b off cap c e f vs hbb hh hT h1' hcc hv hnc =>
        obtain ⟨c', hrun, h1, h2⟩ := key (some ⟨b, off, none⟩) cap rfl hlg hgl hnc hc
        by_cases h0 : g - l = 0
        · rw [h0] at hrun ⊢
          simp only [Nat.zero_mul, List.take_zero]
          by_cases hc0 : c' = 0
          · rw [if_pos hc0] at hrun
            exact ⟨_, hrun, .fs0 _ _⟩
          · rw [if_neg hc0] at hrun
            exact ⟨_, hrun, .fs0 _ _⟩
        · rw [if_neg (by omega)] at hrun
          simp only [Option.map_some, addr_add] at hrun
          refine ⟨_, hrun, .fs _ _ b _ _ c e f (fun j => vs (l * sz + j)) hbb hh hT (all_drop_take h1' _ _) ?_ ?_ h1⟩
          · intro j hj
            simp only [List.length_take, List.length_drop] at hj
            rw [Nat.add_assoc]
            exact hcc _ (by omega)
          · intro j hj
            simp only [List.length_take, List.length_drop] at hj
            rw [List.getElem_take, List.getElem_drop]
            exact hv _ (by omega)
      | fs0 p cap =>
        obtain ⟨c', hrun, h1, h2⟩ := key (some p) cap rfl hlg hgl (Nat.zero_le _) hc
        have e0 : g - l = 0 := by omega
        rw [e0] at hrun ⊢
        simp only [List.drop_nil, List.take_nil]
        by_cases hc0 : c' = 0
        · rw [if_pos hc0] at hrun
          exact ⟨_, hrun, .fs0 _ _⟩
        · rw [if_neg hc0] at hrun
          exact ⟨_, hrun, .fs0 _ _⟩
    · cases hslc
  · cases hslc

theorem d_build (rel : Rel T N fr h a w) {o : Oper} {t : TypeId} {parts : Array (Nat × Operand)} {v : AV} (ho : o.op = .build t parts) {z : List AV} {pl : List (Nat × Nat)} {ps : List (Nat × SX)} {qs : List (Nat × Nat × SX)}
    (hz : zeroT P t = some z) (hpl : placesT P t = some pl) (hps : parts.toList.mapM (fun p => (avx N p.2).map fun x => (p.1, x)) = some ps) (hqs : ps.mapM (fun p => (pl[p.1]?).map fun q => (q.1, q.2, p.2)) = some qs)
    (hd : det (.build z qs) fr h = some v) : DetOk P o h T a w v := by
  simp only [det, Option.map_eq_some_iff] at hd
  obtain ⟨cs, hcs, rfl⟩ := hd
  unfold zeroT at hz
  cases hi : P.info? t with
  | none => simp [hi] at hz
  | some it =>
    cases hzz : it.zero with
    | none => simp [hi, hzz] at hz
    | some zv =>
      simp only [hi, hzz] at hz
      obtain ⟨hcov, _⟩ := Cov.consts (w := w) (h := h) (T := T) hz
      have hparts : ∀ (ls : List (Nat × Operand)) (ps : List (Nat × SX)) (qs : List (Nat × Nat × SX)), ls.mapM (fun p => (avx N p.2).map fun x => (p.1, x)) = some ps →
          ps.mapM (fun p => (pl[p.1]?).map fun q => (q.1, q.2, p.2)) = some qs →
          Parts w h T (pl.toArray[·]?) (qs.map fun (a, b, x) => (a, b, ev fr x)) (ls.map fun (i, x) => (i, a.eval x)) := by
        intro ls
        induction ls with
        | nil =>
          intro ps qs h1 h2
          simp at h1
          subst h1
          simp at h2
          subst h2
          trivial
        | cons p ls ih =>
          intro ps qs h1 h2
          simp only [List.mapM_cons, Option.bind_eq_bind, Option.pure_def, Option.bind_eq_some_iff, Option.map_eq_some_iff] at h1
          obtain ⟨_, ⟨x, hx, rfl⟩, ps', hps', he⟩ := h1
          injection he with he
          subst he
          simp only [List.mapM_cons, Option.bind_eq_bind, Option.pure_def, Option.bind_eq_some_iff, Option.map_eq_some_iff] at h2
          obtain ⟨_, ⟨q, hq, rfl⟩, qs', hqs', he⟩ := h2
          injection he with he
          subst he
          refine ⟨by simpa using hq, V.ev rel hx, ih ps' qs' hps' hqs'⟩
      obtain ⟨A, hA, hC⟩ := fill_sound _ _ _ _ _ (hparts _ _ _ hps hqs) hcov hcs
      refine ⟨.agg A, ?_, .agg _ _ hC.size hC.val⟩
      have hb : P.built t ((parts.map fun (i, x) => (i, a.eval x)).toList) = some A := by
        unfold placesT at hpl
        cases hu : P.underlying t with
        | none => simp [hu] at hpl
        | some d =>
          cases d <;> simp only [hu, reduceCtorEq] at hpl
          rename_i fs
          simp only [Program.built, hi, hu, hzz, hpl, Array.toList_map]
          exact hA
      simp [execOp, ho, run_build w t _ A hb]

theorem det_sound (rel : Rel T N fr h a w) {o : Oper} {so : SO} {v : AV} (hc : cop P N o = some so) (hd : det so fr h = some v) : DetOk P o h T a w v := by
  unfold cop at hc
  cases ho : o.op with
  | move x =>
    simp only [ho, Option.map_eq_some_iff] at hc
    obtain ⟨sx, hx, rfl⟩ := hc
    exact d_move rel (.inl ho) hx hd
  | assign x =>
    simp only [ho, Option.map_eq_some_iff] at hc
    obtain ⟨sx, hx, rfl⟩ := hc
    exact d_move rel (.inr ho) hx hd
  | pick c x y =>
    simp only [ho] at hc
    split at hc
    · rename_i h1 h2 h3
      injection hc with hc
      subst hc
      exact d_pick rel ho h1 h2 h3 hd
    · cases hc
  | load t x =>
    simp only [ho] at hc
    split at hc
    · rename_i h1 h2 h3
      injection hc with hc
      subst hc
      exact d_ld rel ho h1 h2 h3 hd
    · cases hc
  | nilCheck x =>
    simp only [ho, Option.map_eq_some_iff] at hc
    obtain ⟨sx, hx, rfl⟩ := hc
    exact d_nc rel ho hx hd
  | binOp op t x y u =>
    simp only [ho] at hc
    split at hc
    · rename_i h1 h2 h3
      injection hc with hc
      subst hc
      exact d_bin rel ho h1 h2 hd
    · rename_i h1 h2 h3
      split at hc
      · injection hc with hc
        subst hc
        exact d_isnil (ne := false) rel ho h3 h1 h2 hd
      · injection hc with hc
        subst hc
        exact d_isnil (ne := true) rel ho h3 h1 h2 hd
      · cases hc
    · rename_i h1 h2 h3
      split at hc
      · rename_i h4
        injection hc with hc
        subst hc
        exact d_eqs (ne := false) rel ho h4 h1 h2 hd
      · rename_i h4
        injection hc with hc
        subst hc
        exact d_eqs (ne := true) rel ho h4 h1 h2 hd
      · cases hc
    · cases hc
  | unOp op t x =>
    cases op <;> simp only [ho, reduceCtorEq, Option.map_eq_some_iff] at hc
    · obtain ⟨sx, hx, rfl⟩ := hc
      exact d_neg rel ho hx hd
    · obtain ⟨sx, hx, rfl⟩ := hc
      exact d_not rel ho hx hd
  | convert s d x =>
    simp only [ho] at hc
    split at hc
    · rename_i h1 h2 h3
      injection hc with hc
      subst hc
      exact d_cvt rel ho h1 h2 h3 hd
    · cases hc
  | slice t x lo hi mx =>
    simp only [ho] at hc
    split at hc
    · rename_i h1 h2 h3 h4 h5
      split at hc
      · cases hc
      · rename_i hm
        injection hc with hc
        subst hc
        obtain ⟨e, he, hs⟩ := Option.bind_eq_some_iff.1 h1
        refine d_slc rel ho (e := e) ?_ hs h2 h3 h4 h5 (by simpa using hm) hd
        unfold elemT at he
        split at he <;> simp_all
    · cases hc
  | fieldAddr t x f =>
    simp only [ho] at hc
    split at hc
    · rename_i h1 h2
      split at hc
      · rename_i h3
        split at hc
        · cases hc
        · rename_i h0
          injection hc with hc
          subst hc
          unfold fieldT at h1
          split at h1
          · rename_i hs
            exact d_fadr rel ho hs h1 h3 h0 h2 hd
          · cases h1
      · cases hc
    · cases hc
  | field t x f =>
    simp only [ho] at hc
    split at hc
    · rename_i h1 h2
      split at hc
      · rename_i h3 h4
        injection hc with hc
        subst hc
        unfold fieldT at h1
        split at h1
        · rename_i hs
          exact d_fld rel ho hs h1 h3 h4 h2 hd
        · cases h1
      · cases hc
    · cases hc
  | indexAddr t x i =>
    simp only [ho] at hc
    split at hc
    · rename_i h1 h2 h3
      simp only [Option.map_eq_some_iff] at hc
      obtain ⟨sz, hs, rfl⟩ := hc
      exact d_iadr rel ho h1 hs h2 h3 hd
    · rename_i h1 h2 h3
      simp only [Option.map_eq_some_iff] at hc
      obtain ⟨sz, hs, rfl⟩ := hc
      exact d_iarr rel ho h1 hs h2 h3 hd
    · cases hc
  | extract x i =>
    simp only [ho, Option.map_eq_some_iff] at hc
    obtain ⟨sx, hx, rfl⟩ := hc
    exact d_ext rel ho hx hd
  | build t parts =>
    simp only [ho] at hc
    split at hc
    · rename_i h1 h2 h3
      split at hc
      · rename_i h4
        injection hc with hc
        subst hc
        exact d_build rel ho h1 h2 h3 h4 hd
      · cases hc
    · cases hc
  | makeFunc fn first cap =>
    cases fn <;> simp only [ho, reduceCtorEq] at hc
    split at hc
    · rename_i h1 h2
      injection hc with hc
      subst hc
      exact d_mkf rel ho h1 h2 hd
    · cases hc
  | call c =>
    simp only [ho] at hc
    split at hc
    · rename_i hcal
      split at hc
      · rename_i hargs hts
        split at hc
        · rename_i h1 h2
          injection hc with hc
          subst hc
          unfold elemT at h1
          split at h1
          · rename_i hs
            exact d_len rel ho hcal hargs hts hs h2 hd
          · cases h1
        · cases hc
      · cases hc
    · rename_i hcal
      split at hc
      · rename_i hargs
        split at hc
        · rename_i h1 h2
          injection hc with hc
          subst hc
          exact d_min rel ho hcal hargs h1 h2 hd
        · cases hc
      · cases hc
    · split at hc
      · split at hc
        · split at hc
          · split at hc
            · injection hc with hc
              subst hc
              cases hd
            · cases hc
          · cases hc
        · cases hc
      · cases hc
    · split at hc
      · split at hc
        · split at hc
          · injection hc with hc
            subst hc
            cases hd
          · cases hc
        · cases hc
      · cases hc
    · split at hc
      · injection hc with hc
        subst hc
        cases hd
      · cases hc
    · cases hc
  | alloc t =>
    simp only [ho, Option.map_eq_some_iff] at hc
    obtain ⟨_, _, rfl⟩ := hc
    cases hd
  | box t x =>
    simp only [ho, Option.map_eq_some_iff] at hc
    obtain ⟨_, _, rfl⟩ := hc
    cases hd
  | buildSlice t n parts =>
    simp only [ho] at hc
    split at hc
    · split at hc
      · split at hc
        · injection hc with hc
          subst hc
          cases hd
        · cases hc
      · cases hc
    · cases hc
  | makeSlice t l c =>
    simp only [ho] at hc
    split at hc
    · split at hc
      · split at hc
        · injection hc with hc
          subst hc
          cases hd
        · cases hc
      · cases hc
    · cases hc
  | store t x y =>
    simp only [ho] at hc
    split at hc
    · injection hc with hc
      subst hc
      cases hd
    · cases hc
  | _ => simp [ho] at hc

end
end Go.AM
end

section
/- The logic AM: operations that make or write memory do on the machine what they do here. No Go program in it. -/
set_option linter.unusedSimpArgs false
namespace Go.AM
open Go

section
variable {P : Program} {T : Nat → Prop} {N : Nat} {fr : Fr} {h : Hp} {a : Act} {w : World}

theorem HR.lt (hr : HR w h T) {b : Nat} {cs : List AV} (hb : h b = some cs) : b < w.heap.size := by
  obtain ⟨c, e, hw, _⟩ := hr.blk b cs hb
  exact (Array.getElem?_eq_some_iff.1 hw).1

theorem HR.fresh (hr : HR w h T) : h w.heap.size = none := by
  cases hh : h w.heap.size with
  | none => rfl
  | some cs => exact absurd (hr.lt hh) (Nat.lt_irrefl _)

/-- A new block. -/
theorem alloc_ok (hr : HR w h T) {w1 : World} (h1w : w1.heap = w.heap) (hos : w1.os = w.os) (htape : w1.tape = w.tape) (hout : w1.output = w.output) {cs : List AV} {c : Array Value} (e : TypeId) (hl : cs.length ≤ c.size)
    (h1 : cs.all one = true) (hv : ∀ (j : Nat) (hj : j < cs.length), ∃ v, c[j]? = some v ∧ V w h T cs[j] v) :
    Evo h w (hset h w.heap.size cs) (w1.alloc (.cells c e)) ∧ HR (w1.alloc (.cells c e)) (hset h w.heap.size cs) T := by
  have hheap : (w1.alloc (.cells c e)).heap = w.heap.push (.cells c e) := by simp [World.alloc, h1w]
  have old : ∀ i, i < w.heap.size → (w1.alloc (.cells c e)).heap[i]? = w.heap[i]? := by
    intro i hi
    rw [hheap, Array.getElem?_push]
    rw [if_neg (by omega)]
  have hev : Evo h w (hset h w.heap.size cs) (w1.alloc (.cells c e)) := by
    refine ⟨hos, htape, hout, by rw [hheap]; simp, fun i hi _ => old i hi, fun i c' e' f hi => ⟨c', ?_, rfl⟩, fun b hb => ?_⟩
    · rw [old i (Array.getElem?_eq_some_iff.1 hi).1]; exact hi
    · by_cases hbs : b = w.heap.size
      · exact .inr (by omega)
      · simp only [hset, hbs, if_false] at hb
        exact .inl hb
  refine ⟨hev, fun b cs' hb => ?_, hr.heldMono hev⟩
  by_cases hbs : b = w.heap.size
  · subst hbs
    simp only [hset, if_true, Option.some.injEq] at hb
    subst hb
    refine ⟨c, e, by rw [hheap]; simp, hl, h1, fun j hj => ?_⟩
    obtain ⟨v, g1, g2⟩ := hv j hj
    exact ⟨v, g1, g2.mono hev⟩
  · simp only [hset, hbs, if_false] at hb
    obtain ⟨c', e', g1, g2, g3, g4⟩ := hr.blk b cs' hb
    refine ⟨c', e', by rw [old b (hr.lt hb)]; exact g1, g2, g3, fun j hj => ?_⟩
    obtain ⟨v, k1, k2⟩ := g4 j hj
    exact ⟨v, k1, k2.mono hev⟩

/-- A live block is written. -/
theorem write_ok (hr : HR w h T) {b : Nat} {cs cs' : List AV} {c c' : Array Value} {e : TypeId} (hb : h b = some cs) (hw : w.heap[b]? = some (.cells c e (0, 0))) (hs : c'.size = c.size) (hl : cs'.length ≤ c'.size)
    (h1 : cs'.all one = true) (hv : ∀ (j : Nat) (hj : j < cs'.length), ∃ v, c'[j]? = some v ∧ V w h T cs'[j] v) : Evo h w (hset h b cs') (w.setRow b c') ∧ HR (w.setRow b c') (hset h b cs') T := by
  have hnew : (w.setRow b c').heap[b]? = some (.cells c' e (0, 0)) := setRow_heap w b c c' e (0, 0) hw
  have hev : Evo h w (hset h b cs') (w.setRow b c') := by
    refine ⟨rfl, rfl, rfl, by simp, fun i hi hn => setRow_other w b i c' (fun he => by subst he; rw [hb] at hn; cases hn), fun i c1 e1 f1 hi => ?_, fun x hx => ?_⟩
    · by_cases hib : i = b
      · subst hib
        rw [hw] at hi
        injection hi with hi
        injection hi with g1 g2 g3
        subst g1 g2 g3
        exact ⟨c', hnew, hs⟩
      · exact ⟨c1, by rw [setRow_other w b i c' hib]; exact hi, rfl⟩
    · by_cases hxb : x = b
      · subst hxb
        exact .inl (by rw [hb]; simp)
      · simp only [hset, hxb, if_false] at hx
        exact .inl hx
  refine ⟨hev, fun x xs hx => ?_, hr.heldMono hev⟩
  by_cases hxb : x = b
  · subst hxb
    simp only [hset, if_true, Option.some.injEq] at hx
    subst hx
    refine ⟨c', e, hnew, hl, h1, fun j hj => ?_⟩
    obtain ⟨v, g1, g2⟩ := hv j hj
    exact ⟨v, g1, g2.mono hev⟩
  · simp only [hset, hxb, if_false] at hx
    obtain ⟨c1, e1, g1, g2, g3, g4⟩ := hr.blk x xs hx
    refine ⟨c1, e1, by rw [setRow_other w b x c' hxb]; exact g1, g2, g3, fun j hj => ?_⟩
    obtain ⟨v, k1, k2⟩ := g4 j hj
    exact ⟨v, k1, k2.mono hev⟩

/-- What an operation that makes memory does. -/
def MemOk (P : Program) (o : Oper) (h : Hp) (T : Nat → Prop) (a : Act) (w : World) (cs : List AV) (mk : Nat → AV) : Prop :=
  ∃ b r w', (execOp a.eval o).run P w = .ok (.value r) w' ∧ h b = none ∧ Evo h w (hset h b cs) w' ∧ HR w' (hset h b cs) T ∧ V w' (hset h b cs) T (mk b) r

theorem Cov.get {cs : List AV} {A : Array Value} (hc : Cov w h T cs A) : ∀ (j : Nat) (hj : j < cs.length), ∃ v, A[j]? = some v ∧ V w h T cs[j] v := by
  intro j hj
  have hk : j < A.size := by rw [hc.size]; exact hj
  exact ⟨A[j], by simp [hk], hc.val j hj hk⟩

theorem V.newref {w : World} {h : Hp} {T : Nat → Prop} {b : Nat} (hb : b < w.heap.size) : V w h T (.ref b 0) (.pointer (some ⟨b, 0, none⟩)) := .ref b 0 hb

theorem mem_of_cells (rel : Rel T N fr h a w) {o : Oper} {cs : List AV} {c : Array Value} {e : TypeId} (hC : Cov w h T cs c) (h1 : cs.all one = true)
    (hrun : (execOp a.eval o).run P w = .ok (.value (.pointer (some ⟨w.heap.size, 0, none⟩))) (w.alloc (.cells c e))) : MemOk P o h T a w cs (fun b => .ref b 0) := by
  obtain ⟨ev, hr'⟩ := alloc_ok rel.heap rfl rfl rfl rfl e (Nat.le_of_eq hC.size.symm) h1 hC.get
  exact ⟨w.heap.size, _, _, hrun, rel.heap.fresh, ev, hr', V.newref (hr'.lt (cs := cs) (by simp [hset]))⟩

theorem mem_of_row (rel : Rel T N fr h a w) {o : Oper} {len sz : Nat} {cs : List AV} {c : Array Value} {e : TypeId} (hC : Cov w h T cs c) (h1 : cs.all one = true) (hlen : len * sz ≤ cs.length)
    (hrun : (execOp a.eval o).run P w = .ok (.value (.slice (some ⟨w.heap.size, 0, none⟩) len len)) (w.alloc (.cells c e))) : MemOk P o h T a w cs (fun b => .sl b 0 len sz) := by
  obtain ⟨ev, hr'⟩ := alloc_ok rel.heap rfl rfl rfl rfl e (Nat.le_of_eq hC.size.symm) h1 hC.get
  refine ⟨w.heap.size, _, _, hrun, rel.heap.fresh, ev, hr', .sl _ 0 len sz len c e (0, 0) ?_ (by rw [hC.size]; omega) (Nat.le_refl _)⟩
  show (w.heap.push (.cells c e))[w.heap.size]? = _
  simp

theorem zeroT_spec {t : TypeId} {z : List AV} (hz : zeroT P t = some z) : ∃ i zv, P.info? t = some i ∧ i.zero = some zv ∧ zv.cells.toList.mapM avc = some z := by
  unfold zeroT at hz
  split at hz
  · rename_i i hi
    split at hz
    · rename_i zv hzv
      exact ⟨i, zv, hi, hzv, hz⟩
    · cases hz
  · cases hz

theorem m_new (rel : Rel T N fr h a w) {o : Oper} {t : TypeId} (ho : o.op = .alloc t) {cs0 : List AV} (hz : zeroT P t = some cs0) {cs : List AV} {mk : Nat → AV} (hm : mem (.new cs0) fr = some (cs, mk)) : MemOk P o h T a w cs mk := by
  simp only [mem] at hm
  split at hm
  · rename_i h1
    injection hm with hm
    injection hm with g1 g2
    subst g1 g2
    obtain ⟨i, zv, hi, hzv, hmm⟩ := zeroT_spec hz
    obtain ⟨hC, _⟩ := Cov.consts (w := w) (h := h) (T := T) hmm
    refine mem_of_cells (e := t) rel hC h1 ?_
    simp [execOp, ho, Instr.alloc, zeroValue, typeInfo, hi, hzv, newVar, newRow]
  · cases hm

theorem m_box (rel : Rel T N fr h a w) {o : Oper} {t : TypeId} {x : Operand} (ho : o.op = .box t x) {sx : SX} (hx : avx N x = some sx) {cs : List AV} {mk : Nat → AV} (hm : mem (.box sx) fr = some (cs, mk)) : MemOk P o h T a w cs mk := by
  simp only [mem] at hm
  split at hm
  · rename_i h1
    injection hm with hm
    injection hm with g1 g2
    subst g1 g2
    obtain ⟨k1, k2⟩ := V.cells (V.ev rel hx)
    refine mem_of_cells (e := t) rel ⟨k1, k2⟩ h1 ?_
    simp [execOp, ho, Instr.box, newVar, newRow]
  · cases hm

theorem zeros_length (n : Nat) (z : List AV) : (zeros n z).length = n * z.length := by simp [zeros]

theorem zeros_get {n : Nat} {z : List AV} {j : Nat} (hj : j < n * z.length) : (zeros n z)[j]? = z[j % z.length]? := by
  induction n generalizing j with
  | zero => omega
  | succ n ih =>
    simp only [zeros, List.replicate_succ, List.flatten_cons] at ih ⊢
    by_cases hlt : j < z.length
    · rw [List.getElem?_append_left hlt, Nat.mod_eq_of_lt hlt]
    · rw [List.getElem?_append_right (by omega), ih (by rw [Nat.succ_mul] at hj; omega)]
      congr 1
      rw [← Nat.mod_eq_sub_mod (by omega)]

theorem Cov.zeros {z : List AV} {A : Array Value} (hC : Cov w h T z A) (n : Nat) (c : Array Value) (hc : c = (Array.range (n * z.length)).map (A[· % A.size]!)) : Cov w h T (AM.zeros n z) c := by
  refine ⟨by simp [hc, zeros_length], fun j hj hk => ?_⟩
  rw [zeros_length] at hj
  have hz0 : 0 < z.length := by
    rcases Nat.eq_zero_or_pos z.length with h0 | h0
    · rw [h0] at hj; omega
    · exact h0
  have hm : j % z.length < z.length := Nat.mod_lt _ hz0
  have g := zeros_get hj
  rw [List.getElem?_eq_getElem (by rw [zeros_length]; exact hj), List.getElem?_eq_getElem hm] at g
  injection g with g
  rw [g]
  have hm' : j % A.size < A.size := by rw [hC.size]; exact hm
  have e : c[j] = A[j % A.size] := by
    subst hc
    simp only [Array.getElem_map, Array.getElem_range]
    rw [getElem!_pos A (j % A.size) hm']
  rw [e]
  simp only [hC.size]
  exact hC.val _ hm (by rw [hC.size]; exact hm)

theorem all_zeros {n : Nat} {z : List AV} (h1 : z.all one = true) : (zeros n z).all one = true := by
  rw [List.all_eq_true] at h1 ⊢
  intro x hx
  simp only [zeros, List.mem_flatten, List.mem_replicate] at hx
  obtain ⟨l, ⟨_, rfl⟩, hx⟩ := hx
  exact h1 x hx

theorem sizeT_spec {t : TypeId} {n : Nat} (hs : sizeT P t = some n) : ∃ i, P.info? t = some i ∧ i.size = n := by
  simpa [sizeT] using hs

theorem run_makeSlice' (w : World) (t e : TypeId) (i : TypeInfo) (z : Value) (ht : P.underlying t = some (.slice e)) (hi : P.info? e = some i) (hz : i.zero = some z) (n : Int) (h0 : 0 ≤ n) (h1 : n ≤ 4294967296) (hby : i.bytes ≤ 4096) :
    (Instr.makeSlice t (.int .i64 n) (.int .i64 n)).run P w = .ok (.slice (some ⟨w.heap.size, 0, none⟩) n.toNat n.toNat) (w.alloc (.cells ((Array.range (n.toNat * i.size)).map (z.cells[· % z.cells.size]!)) e)) := by
  have hb : (i.bytes : Int) * n ≤ 281474976710656 := by
    have g1 : (i.bytes : Int) * n ≤ 4096 * n := Int.mul_le_mul_of_nonneg_right (by omega) h0
    omega
  have wn : IntKind.i64.wrap n = n := by
    exact IntWalk.i64_in n (by omega)
  have n1 : ¬ n < 0 := by omega
  have n2 : ¬ (281474976710656 < (i.bytes : Int) * n) := by omega
  by_cases hn : n.toNat * i.size = 0
  · simp [Instr.makeSlice, run_underlying ht, asInt, asIntOf, typeInfo, hi, sizeOf, wn, n1, n2, hn, newRow, Array.range_zero']
  · simp [Instr.makeSlice, run_underlying ht, asInt, asIntOf, typeInfo, hi, sizeOf, zeroValue, hz, wn, n1, n2, hn, newRow]

theorem m_mks (rel : Rel T N fr h a w) {o : Oper} {t e : TypeId} {x : Nat} {lx cx : Operand} (ho : o.op = .makeSlice t lx cx) (ht : P.underlying t = some (.slice e)) (hlx : avx N lx = some (.t x)) (hcx : avx N cx = some (.t x)) {sz : Nat}
    {z : List AV} {i : TypeInfo} (hs : sizeT P e = some sz) (hz : zeroT P e = some z) (hi : P.info? e = some i) (hzl : z.length = sz) (hby : i.bytes ≤ 4096) {cs : List AV} {mk : Nat → AV}
    (hm : mem (.mks (.t x) sz z) fr = some (cs, mk)) : MemOk P o h T a w cs mk := by
  have el : a.eval lx = a.tmps.getD x undef := by
    cases lx <;> simp only [avx, reduceCtorEq, Option.map_eq_some_iff, Option.some.injEq, SX.f.injEq, SX.t.injEq] at hlx
    · split at hlx
      · injection hlx with hlx; injection hlx with hlx; subst hlx; rfl
      · cases hlx
    · obtain ⟨_, _, g⟩ := hlx; cases g
  have ec : a.eval cx = a.tmps.getD x undef := by
    cases cx <;> simp only [avx, reduceCtorEq, Option.map_eq_some_iff, Option.some.injEq, SX.f.injEq, SX.t.injEq] at hcx
    · split at hcx
      · injection hcx with hcx; injection hcx with hcx; subst hcx; rfl
      · cases hcx
    · obtain ⟨_, _, g⟩ := hcx; cases g
  have V1 := V.ev rel hlx
  rw [el] at V1
  simp only [mem] at hm
  split at hm
  · rename_i n hn
    simp only [AM.ev] at hn V1
    rw [hn] at V1
    split at hm
    · rename_i hc
      obtain ⟨h0, h1, h2⟩ := hc
      injection hm with hm
      injection hm with g1 g2
      subst g1 g2
      generalize hv : a.tmps.getD x undef = v at V1 el ec
      cases V1
      obtain ⟨i', zv, hi', hzv, hmm⟩ := zeroT_spec hz
      rw [hi] at hi'
      injection hi' with hi'
      subst hi'
      obtain ⟨i', hi', hsz⟩ := sizeT_spec hs
      rw [hi] at hi'
      injection hi' with hi'
      subst hi'
      obtain ⟨hC, _⟩ := Cov.consts (w := w) (h := h) (T := T) hmm
      have hrun := run_makeSlice' (P := P) w t e i zv ht hi hzv n h0 h1 hby
      refine mem_of_row (e := e) rel (Cov.zeros hC n.toNat _ rfl) (all_zeros h2) (by rw [zeros_length, hzl]; exact Nat.le_refl _) ?_
      simp only [execOp, ho, el, ec, Sem.run_bind, hrun, Result.andThen_ok, Sem.run_pure]
      rw [hzl, ← hsz]
    · cases hm
  · cases hm

theorem m_mkl (rel : Rel T N fr h a w) {o : Oper} {t e : TypeId} {len sz : Nat} {parts : Array (Nat × Operand)} (ho : o.op = .buildSlice t len parts) (ht : P.underlying t = some (.slice e)) {z : List AV} {ps : List (Nat × SX)}
    (hs : sizeT P e = some sz) (hz : zeroT P e = some z) (hps : parts.toList.mapM (fun p => (avx N p.2).map fun x => (p.1, x)) = some ps) (hzl : z.length = sz) (hle : len * sz ≤ 1024) {cs : List AV} {mk : Nat → AV}
    (hm : mem (.mkl len sz (zeros len z) (ps.map fun p => (p.1 * sz, sz, p.2))) fr = some (cs, mk)) : MemOk P o h T a w cs mk := by
  simp only [mem] at hm
  split at hm
  · rename_i cs' hf
    split at hm
    · rename_i h1
      injection hm with hm
      injection hm with g1 g2
      subst g1 g2
      obtain ⟨i, zv, hi, hzv, hmm⟩ := zeroT_spec hz
      obtain ⟨i', hi', hsz⟩ := sizeT_spec hs
      rw [hi] at hi'
      injection hi' with hi'
      subst hi'
      obtain ⟨hC, _⟩ := Cov.consts (w := w) (h := h) (T := T) hmm
      have hCz := Cov.zeros hC len _ rfl
      have hparts : ∀ (ls : List (Nat × Operand)) (ps : List (Nat × SX)), ls.mapM (fun p => (avx N p.2).map fun x => (p.1, x)) = some ps →
          Parts w h T (fun i => some (i * sz, sz)) ((ps.map fun p => (p.1 * sz, sz, p.2)).map fun (a, b, x) => (a, b, ev fr x)) (ls.map fun (i, x) => (i, a.eval x)) := by
        intro ls
        induction ls with
        | nil =>
          intro ps h1
          simp at h1
          subst h1
          trivial
        | cons p ls ih =>
          intro ps h1
          simp only [List.mapM_cons, Option.bind_eq_bind, Option.pure_def, Option.bind_eq_some_iff, Option.map_eq_some_iff] at h1
          obtain ⟨_, ⟨x, hx, rfl⟩, ps', hps', he⟩ := h1
          injection he with he
          subst he
          exact ⟨rfl, V.ev rel hx, ih ps' hps'⟩
      obtain ⟨A, hA, hCA⟩ := fill_sound _ _ _ _ _ (hparts _ _ hps) hCz hf
      have hlen : len * sz ≤ cs'.length := by
        have : ∀ (ps : List (Nat × Nat × AV)) (c c' : List AV), afill c ps = some c' → c'.length = c.length := by
          intro ps
          induction ps with
          | nil => intro c c' hc; simp only [afill, Option.some.injEq] at hc; rw [hc]
          | cons p ps ih =>
            intro c c' hc
            obtain ⟨o, s, v⟩ := p
            simp only [afill] at hc
            split at hc
            · rename_i hcc
              rw [ih _ _ hc, splice_length (by omega)]
            · cases hc
        rw [this _ _ _ hf, zeros_length, hzl]
        exact Nat.le_refl _
      refine mem_of_row (e := e) rel hCA h1 hlen ?_
      have hbig : ¬ (2 ^ 24 < len * i.size) := by rw [hsz]; omega
      have hA' : Instr.fill (fun j => some (j * i.size, i.size)) ((Array.range (len * i.size)).map (zv.cells[· % zv.cells.size]!)) (parts.toList.map fun (j, x) => (j, a.eval x)) = some A := by
        rw [hsz, ← hzl]
        rw [hzl]
        rw [hzl] at hA
        exact hA
      by_cases h0 : len * i.size = 0
      · have hA0 : Instr.fill (fun j => some (j * i.size, i.size)) #[] (parts.toList.map fun (j, x) => (j, a.eval x)) = some A := by
          rw [h0] at hA'
          simpa [Array.range_zero'] using hA'
        simp [execOp, ho, Instr.buildSlice, run_underlying ht, sizeOf, typeInfo, hi, h0, hA0, newRow, Array.range_zero']
      · simp [execOp, ho, Instr.buildSlice, run_underlying ht, sizeOf, typeInfo, zeroValue, hi, hzv, h0, hbig, hA', newRow]
    · cases hm
  · cases hm

end
end Go.AM
end

section
/- The logic AM: append, copy and store do on the machine what they do here. No Go program in it. -/
set_option linter.unusedSimpArgs false
namespace Go.AM
open Go

/-- append, as what follows must hold. -/
def appW (s x : AV) (sz : Nat) (h : Hp) (K : AV → Hp → Prop) : Prop :=
  match readS h x sz with
  | none => False
  | some (m, xs) => match s with
    | .nils => m ≤ 4294967296 ∧ (m = 0 → K .nils h) ∧ (m ≠ 0 → ∀ b, h b = none → K (.sl b 0 m sz) (hset h b xs))
    | .sl B off len sz' => match h B with
      | none => False
      | some cs => off = 0 ∧ sz' = sz ∧ cs.length = len * sz ∧ len + m ≤ 4294967296 ∧ ∀ b, (b = B ∨ h b = none) → K (.sl b 0 (len + m) sz) (hset h b (cs ++ xs))
    | _ => False

def cpyW (s x : AV) (h : Hp) (K : AV → Hp → Prop) : Prop :=
  match readS h x 1 with
  | none => False
  | some (m, xs) => match s with
    | .sl B off len sz => match h B with
      | none => False
      | some cs => sz = 1 ∧ off + len ≤ cs.length ∧ K (.base (.int .i64 (Nat.min m len : Nat))) (hset h B (splice cs off (xs.take (Nat.min m len))))
    | _ => False

def stW (x v : AV) (n : Nat) (h : Hp) (K : Hp → Prop) : Prop :=
  match x with
  | .ref B off => match h B with
    | none => False
    | some cs => v.cells.length = n ∧ off + n ≤ cs.length ∧ v.cells.all one = true ∧ K (hset h B (splice cs off v.cells))
  | _ => False

section
variable {P : Program} {T : Nat → Prop} {N : Nat} {fr : Fr} {h : Hp} {a : Act} {w : World}

/-- What a slice that is read yields. -/
theorem readS_sound (hr : HR w h T) {x : AV} {v : Value} (hV : V w h T x v) {sz m : Nat} {xs : List AV} (hx : readS h x sz = some (m, xs)) {t e : TypeId} (ht : P.underlying t = some (.slice e)) :
    ∃ news : List Value, Src P sz t v m news w ∧ news.length = xs.length ∧ xs.all one = true ∧ (∀ (j : Nat) (hj : j < xs.length) (hk : j < news.length), V w h T xs[j] news[j]) ∧
      ((v = .slice none 0 0 ∧ m = 0) ∨ ∃ ad cp, v = .slice (some ad) m cp ∧ ∀ j u, news[j]? = some u → w.cell? (ad.add j) = some u) := by
  have mk : ∀ (b off cap n : Nat) (cs : List AV), Cells w h T b off cs → cs.length = n * sz → ∃ news : List Value, Src P sz t (.slice (some ⟨b, off, none⟩) n cap) n news w ∧ news.length = cs.length ∧ cs.all one = true ∧
      (∀ (j : Nat) (hj : j < cs.length) (hk : j < news.length), V w h T cs[j] news[j]) ∧ (∀ j u, news[j]? = some u → w.cell? ((⟨b, off, none⟩ : Addr).add j) = some u) := by
    intro b off cap n cs hC hl
    obtain ⟨⟨vs, hg⟩, h1⟩ := hC
    have hnews : ∀ j u, ((List.range cs.length).map vs)[j]? = some u → w.cell? ((⟨b, off, none⟩ : Addr).add j) = some u := by
      intro j u hj
      obtain ⟨hlt, he⟩ := List.getElem?_eq_some_iff.1 hj
      simp only [List.length_map, List.length_range] at hlt
      simp only [List.getElem_map, List.getElem_range] at he
      rw [addr_add, (hg j hlt).1, he]
    refine ⟨(List.range cs.length).map vs, Src.ofSlice w ht _ n cap _ (by simpa using hl) hnews ?_, by simp, h1, ?_, hnews⟩
    · intro u hu
      simp only [List.mem_map, List.mem_range] at hu
      obtain ⟨j, hj, rfl⟩ := hu
      exact V.one (hg j hj).2 (List.all_eq_true.1 h1 _ (List.getElem_mem hj))
    · intro j hj hk
      simp only [List.getElem_map, List.getElem_range]
      exact (hg j hj).2
  cases hV with
  | nils =>
    simp only [readS, Option.some.injEq, Prod.mk.injEq] at hx
    obtain ⟨rfl, rfl⟩ := hx
    exact ⟨[], Src.ofNil w ht 0, rfl, rfl, (fun j hj => by cases hj), .inl ⟨rfl, rfl⟩⟩
  | fs n cells b off cap c e' f vs hb hh hT h1 hc hv hn =>
    simp only [readS] at hx
    split at hx
    · rename_i hle
      injection hx with hx
      injection hx with g1 g2
      subst g1 g2
      have hC := (Cells.of_frozen hb h1 hc hv).cut 0 (n * sz)
      simp only [Nat.add_zero, List.drop_zero] at hC
      obtain ⟨news, k1, k2, k3, k4, k5⟩ := mk b off cap n _ hC (by simp; omega)
      exact ⟨news, k1, k2, k3, k4, .inr ⟨_, _, rfl, k5⟩⟩
    · cases hx
  | fs0 p cap =>
    simp only [readS, Nat.zero_mul, List.length_nil, Nat.le_refl, if_true, List.take_nil, Option.some.injEq, Prod.mk.injEq] at hx
    obtain ⟨rfl, rfl⟩ := hx
    exact ⟨[], Src.ofSlice w ht p 0 cap [] (by simp) (fun j u hj => by cases hj) (fun u hu => by cases hu), rfl, rfl, (fun j hj => by cases hj), .inr ⟨_, _, rfl, (fun j u hj => by cases hj)⟩⟩
  | sl b off len sz' cap c e' f hb hc hl =>
    simp only [readS] at hx
    split at hx
    · rename_i cs hcs
      split at hx
      · rename_i hc2
        obtain ⟨rfl, hle⟩ := hc2
        injection hx with hx
        injection hx with g1 g2
        subst g1 g2
        have hC := (Cells.of_live hr hcs).cut off (len * sz')
        simp only [Nat.zero_add] at hC
        obtain ⟨news, k1, k2, k3, k4, k5⟩ := mk b off cap len _ hC (by simp; omega)
        exact ⟨news, k1, k2, k3, k4, .inr ⟨_, _, rfl, k5⟩⟩
      · cases hx
    · cases hx
  | sl0 b off sz' p =>
    simp only [readS] at hx
    split at hx
    · split at hx
      · injection hx with hx
        injection hx with g1 g2
        subst g1
        simp only [Nat.zero_mul, List.take_zero] at g2
        subst g2
        exact ⟨[], Src.ofSlice w ht p 0 0 [] (by simp) (fun j u hj => by cases hj) (fun u hu => by cases hu), rfl, rfl, (fun j hj => by cases hj), .inr ⟨_, _, rfl, (fun j u hj => by cases hj)⟩⟩
      · cases hx
    · cases hx
  | _ => simp [readS] at hx

theorem run_app_room (w : World) (t tx ty e : TypeId) (i : TypeInfo) (ht : P.underlying t = some (.slice e)) (hi : P.info? e = some i) (g sLen sCap : Nat) (e' : TypeId) (cur : Array Value) (hg : w.heap[g]? = some (.cells cur e' (0, 0)))
    (x : Value) (n : Nat) (news : List Value) (hs : Src P i.size tx x n news w) (hroom : sLen + n ≤ sCap) (hfit : sLen * i.size + news.length ≤ cur.size) :
    (Builtin.append_ #[t, tx] ty #[.slice (some ⟨g, 0, none⟩) sLen sCap, x]).run P w =
      .ok (.slice (some ⟨g, 0, none⟩) (sLen + n) sCap) (w.setRow g (cur.toList.take (sLen * i.size) ++ news ++ cur.toList.drop (sLen * i.size + news.length)).toArray) := by
  have hst := run_storeCells_at P g (sLen * i.size) e' news 0 cur w hg (by simpa using hfit) hs.one
  simp only [Nat.add_zero] at hst
  rcases hs.kind with ⟨e', hk⟩ | hk <;> simp [Builtin.append_, run_underlying ht, run_underlying hk, sizeOf, typeInfo, hi, hs.len, hroom, hs.cells, Addr.add_lit, hst]

def WOk (P : Program) (o : Oper) (h : Hp) (T : Nat → Prop) (a : Act) (w : World) (K : AV → Hp → Prop) : Prop :=
  ∃ v h' r w', (execOp a.eval o).run P w = .ok (.value r) w' ∧ K v h' ∧ Evo h w h' w' ∧ HR w' h' T ∧ V w' h' T v r

theorem cov_seg (cs xs : List AV) (A B : List Value) (hA : cs.length ≤ A.length) (hBl : B.length = xs.length) (off : Nat) (hoff : off + xs.length ≤ A.length) (hcs : off ≤ cs.length) (hv : ∀ (j : Nat) (hj : j < cs.length), ∃ v, A[j]? = some v ∧ V w h T cs[j] v)
    (hx : ∀ (j : Nat) (hj : j < xs.length) (hk : j < B.length), V w h T xs[j] B[j]) (R : List AV) (_hR : R.length ≤ A.length)
    (hget : ∀ j, j < R.length → R[j]? = if off ≤ j ∧ j < off + xs.length then xs[j - off]? else cs[j]?) :
    ∀ (j : Nat) (hj : j < R.length), ∃ v, (A.take off ++ B ++ A.drop (off + B.length)).toArray[j]? = some v ∧ V w h T R[j] v := by
  intro j hj
  have hg := hget j hj
  rw [List.getElem?_eq_getElem hj] at hg
  rw [List.getElem?_toArray]
  by_cases h1 : off ≤ j ∧ j < off + xs.length
  · rw [if_pos h1, List.getElem?_eq_getElem (show j - off < xs.length by omega)] at hg
    injection hg with hg
    refine ⟨B[j - off]'(by omega), ?_, by rw [hg]; exact hx _ _ _⟩
    rw [List.append_assoc, List.getElem?_append_right (by simp; omega), List.getElem?_append_left (by simp; omega)]
    rw [List.length_take, Nat.min_eq_left (by omega), List.getElem?_eq_getElem]
  · rw [if_neg h1] at hg
    have hjc : j < cs.length := by
      rcases Nat.lt_or_ge j cs.length with hh | hh
      · exact hh
      · rw [List.getElem?_eq_none hh] at hg; cases hg
    rw [List.getElem?_eq_getElem hjc] at hg
    injection hg with hg
    obtain ⟨v, k1, k2⟩ := hv j hjc
    refine ⟨v, ?_, by rw [hg]; exact k2⟩
    by_cases h2 : j < off
    · rw [List.append_assoc, List.getElem?_append_left (by simp; omega), List.getElem?_take_of_lt h2]
      exact k1
    · rw [List.getElem?_append_right (by simp; omega), List.getElem?_drop]
      have e : off + B.length + (j - (A.take off ++ B).length) = j := by
        simp
        omega
      rw [e]
      exact k1

theorem w_app (rel : Rel T N fr h a w) {o : Oper} {c : Call} {t u e e2 : TypeId} {s x : Operand} (ho : o.op = .call c) (hcal : c.callee = .builtin .append) (hargs : c.args.toList = [s, x]) (hts : c.argTypes.toList = [t, u])
    (ht : P.underlying t = some (.slice e)) (hu : P.underlying u = some (.slice e2)) {ss sx : SX} (hs : avx N s = some ss) (hx : avx N x = some sx) {sz : Nat} {z : List AV} {i : TypeInfo} (hsz : sizeT P e = some sz) (hz : zeroT P e = some z)
    (hi : P.info? e = some i) (hzl : z.length = sz) (hby : i.bytes ≤ 4096) {K : AV → Hp → Prop} (hK : appW (ev fr ss) (ev fr sx) sz h K) : WOk P o h T a w K := by
  have V1 := V.ev rel hs
  have V2 := V.ev rel hx
  have ea : c.args = #[s, x] := by rw [← Array.toArray_toList (xs := c.args), hargs]
  have et : c.argTypes = #[t, u] := by rw [← Array.toArray_toList (xs := c.argTypes), hts]
  generalize hsv : a.eval s = sv at V1
  generalize hxv : a.eval x = xv at V2
  obtain ⟨i', zv, hi', hzv, hmm⟩ := zeroT_spec hz
  have hzc : zv.cells.size = sz := by rw [(Cov.consts (w := w) (h := h) (T := T) hmm).1.size, hzl]
  rw [hi] at hi'
  injection hi' with hi'
  subst hi'
  obtain ⟨i', hi', hisz⟩ := sizeT_spec hsz
  rw [hi] at hi'
  injection hi' with hi'
  subst hi'
  unfold appW at hK
  split at hK
  · exact hK.elim
  rename_i m xs hread
  obtain ⟨news, hsrc, hnl, h1, hnv, hform⟩ := readS_sound rel.heap V2 hread hu
  have hexec : ∀ r w', (Builtin.append_ #[t, u] o.type #[sv, xv]).run P w = .ok r w' → (execOp a.eval o).run P w = .ok (.value r) w' := by
    intro r w' hr
    simp [execOp, ho, resolve, hcal, ea, et, hsv, hxv, invoke, builtin, hr]
  have hnewsl : news.length = m * sz := hsrc.newsLen
  have fits : ∀ need old : Nat, old < need → need ≤ 4294967296 → Builtin.nextslicecap need old * i.bytes ≤ 281474976710656 := by
    intro need old h1 h2
    refine growslice_fits h1 ?_
    have : need * i.bytes ≤ 4294967296 * 4096 := Nat.mul_le_mul h2 hby
    omega
  split at hK
  · -- nil
    rename_i hss
    rw [hss] at V1
    cases V1
    obtain ⟨hm, hK0, hK1⟩ := hK
    by_cases hm0 : m = 0
    · subst hm0
      refine ⟨.nils, h, .slice none 0 0, w, hexec _ _ ?_, hK0 rfl, Evo.refl _ _, rel.heap, .nils⟩
      rcases hsrc.kind with ⟨e', hk⟩ | hk <;> simp [Builtin.append_, run_underlying ht, run_underlying hk, sizeOf, typeInfo, hi, hsrc.len, hisz, hsrc.cells]
    · have hrun := run_append_grow_src (P := P) w t u o.type e i zv ht hi hzv none 0 0 [] (run_firstCells_none w.drew i.size 0 0 0) xv m news (by rw [hisz]; exact hsrc) (by omega) (by omega) (fits _ _ (by omega) (by omega))
      simp only [Nat.zero_add, List.nil_append] at hrun
      obtain ⟨ev', hr'⟩ := alloc_ok rel.heap (w1 := w.drew) rfl rfl rfl rfl (cs := xs) (c := news.toArray ++ Builtin.zeroCells zv.cells (grownCap w m 0 e - m)) e (by simp; omega) h1 (fun j hj => by
        refine ⟨news[j]'(by omega), ?_, hnv j hj (by omega)⟩
        rw [Array.getElem?_append_left (by simp; omega)]
        simp [show j < news.length by omega])
      refine ⟨_, _, _, _, hexec _ _ hrun, hK1 hm0 w.heap.size rel.heap.fresh, ev', hr', ?_⟩
      refine .sl _ 0 m sz _ (news.toArray ++ Builtin.zeroCells zv.cells (grownCap w m 0 e - m)) e (0, 0) ?_ ?_ ?_
      · show (w.heap.push _)[w.heap.size]? = _
        simp
      · have hcap : m ≤ grownCap w m 0 e := by unfold grownCap Question.cut; exact Nat.le_add_right _ _
        simp [hnewsl, Builtin.zeroCells, hzc]
        rw [← Nat.add_mul]
        exact Nat.mul_le_mul_right _ (by omega)
      · unfold grownCap Question.cut
        exact Nat.le_add_right _ _
  · -- a live row
    rename_i B off len sz' hss
    rw [hss] at V1
    split at hK
    · exact hK.elim
    rename_i cs hcs
    obtain ⟨rfl, rfl, hlen, hmax, hK⟩ := hK
    obtain ⟨c0, e0, hw, hle, h1c, hvc⟩ := rel.heap.blk B cs hcs
    have hgc := (Cells.of_live rel.heap hcs)
    -- the old cells, as a list of values
    obtain ⟨⟨vs, hg⟩, _⟩ := hgc
    have holds : ∀ j v, ((List.range cs.length).map vs)[j]? = some v → w.cell? ((⟨B, 0, none⟩ : Addr).add j) = some v := by
      intro j v hj
      obtain ⟨hlt, he⟩ := List.getElem?_eq_some_iff.1 hj
      simp only [List.length_map, List.length_range] at hlt
      simp only [List.getElem_map, List.getElem_range] at he
      rw [addr_add, (hg j hlt).1, he]
    have grow : ∀ (p : Option Addr) (cap : Nat) (olds : List Value), sv = .slice p len cap → cap < len + m → olds.length = cs.length → (∀ (j : Nat) (hj : j < cs.length) (hk : j < olds.length), V w h T cs[j] olds[j]) →
        (Builtin.firstCells i.size len (.slice p len cap)).run P w.drew = .ok olds.toArray w.drew → WOk P o h T a w K := by
      intro p cap olds hp hcap hol hov hfc
      subst hp
      have hrun := run_append_grow_src (P := P) w t u o.type e i zv ht hi hzv p len cap olds hfc xv m news (by rw [hisz]; exact hsrc) hcap (by omega) (fits _ _ (by omega) (by omega))
      obtain ⟨ev', hr'⟩ := alloc_ok rel.heap (w1 := w.drew) rfl rfl rfl rfl (cs := cs ++ xs) (c := (olds ++ news).toArray ++ Builtin.zeroCells zv.cells (grownCap w (len + m) cap e - (len + m))) e (by simp; omega)
        (by rw [List.all_append, h1c, h1]; rfl) (fun j hj => by
          have hj2 : j < olds.length + news.length := by rw [List.length_append] at hj; omega
          rw [Array.getElem?_append_left (by simpa using hj2), List.getElem?_toArray]
          by_cases hjc : j < cs.length
          · refine ⟨olds[j]'(by omega), ?_, ?_⟩
            · rw [List.getElem?_append_left (by omega), List.getElem?_eq_getElem]
            · rw [List.getElem_append_left hjc]; exact hov j hjc (by omega)
          · refine ⟨news[j - olds.length]'(by omega), ?_, ?_⟩
            · rw [List.getElem?_append_right (by omega), List.getElem?_eq_getElem]
            · rw [List.getElem_append_right (by omega)]
              have := hnv (j - cs.length) (by rw [List.length_append] at hj; omega) (by omega)
              simpa only [hol] using this)
      refine ⟨_, _, _, _, hexec _ _ hrun, hK w.heap.size (.inr rel.heap.fresh), ev', hr', ?_⟩
      refine .sl _ 0 (len + m) sz' _ ((olds ++ news).toArray ++ Builtin.zeroCells zv.cells (grownCap w (len + m) cap e - (len + m))) e (0, 0) ?_ ?_ ?_
      · show (w.heap.push _)[w.heap.size]? = _
        simp
      · have hcap' : len + m ≤ grownCap w (len + m) cap e := by unfold grownCap Question.cut; exact Nat.le_add_right _ _
        simp [hnewsl, Builtin.zeroCells, hzc, hol, hlen]
        rw [← Nat.add_mul, ← Nat.add_mul]
        exact Nat.mul_le_mul_right _ (by omega)
      · unfold grownCap Question.cut
        exact Nat.le_add_right _ _
    cases V1 with
    | sl b off len sz cap c e1 f hb hc hl =>
      have hb' := hb
      rw [hw] at hb'
      injection hb' with hb'
      injection hb' with g1 g2 g3
      subst g1 g2 g3
      by_cases hroom : len + m ≤ cap
      · have hfit : len * i.size + news.length ≤ c0.size := by
          rw [hnewsl, hisz, ← Nat.add_mul]
          exact Nat.le_trans (Nat.mul_le_mul_right _ hroom) (by omega)
        have hrun := run_app_room (P := P) w t u o.type e i ht hi B len cap e0 c0 hw xv m news (by rw [hisz]; exact hsrc) hroom hfit
        rw [hisz, ← hlen] at hrun
        rw [hisz, ← hlen] at hfit
        obtain ⟨ev', hr'⟩ := write_ok rel.heap (cs' := cs ++ xs) (c' := (c0.toList.take cs.length ++ news ++ c0.toList.drop (cs.length + news.length)).toArray) hcs hw (by simp; omega) (by simp; omega)
          (by rw [List.all_append, h1c, h1]; rfl)
          (cov_seg cs xs c0.toList news (by simpa using hle) hnl cs.length (by simp; omega) (Nat.le_refl _) (fun j hj => by simpa using hvc j hj) hnv (cs ++ xs) (by simp; omega) (fun j hj => by
            by_cases hjc : j < cs.length
            · rw [List.getElem?_append_left hjc, if_neg (by omega)]
            · rw [List.getElem?_append_right (by omega), if_pos ⟨by omega, by rw [List.length_append] at hj; omega⟩]))
        refine ⟨_, _, _, _, hexec _ _ hrun, hK B (.inl rfl), ev', hr', ?_⟩
        refine .sl B 0 (len + m) _ cap _ e0 (0, 0) (setRow_heap w B c0 _ e0 (0, 0) hw) ?_ hroom
        have : (c0.toList.take cs.length ++ news ++ c0.toList.drop (cs.length + news.length)).toArray.size = c0.size := by simp; omega
        rw [this]
        exact hc
      · refine grow (some ⟨B, 0, none⟩) cap ((List.range cs.length).map vs) rfl (by omega) (by simp) (fun j hj hk => by
          simp only [List.getElem_map, List.getElem_range]; exact (hg j hj).2) ?_
        exact run_firstCells_some (P := P) w.drew i.size len ⟨B, 0, none⟩ len cap _ (by simp [hlen, hisz]) (by simpa using holds)
    | sl0 b off sz p =>
      have hc0 : cs = [] := by
        apply List.eq_nil_of_length_eq_zero
        omega
      by_cases hm0 : m = 0
      · subst hm0
        have hx0 : xs = [] := by
          apply List.eq_nil_of_length_eq_zero
          omega
        have hn0 : news = [] := by
          apply List.eq_nil_of_length_eq_zero
          omega
        subst hx0 hn0
        obtain ⟨ev', hr'⟩ := write_ok rel.heap (cs' := cs ++ []) (c' := c0) hcs hw rfl (by simpa using hle) (by simpa using h1c) (fun j hj => by simpa using hvc j (by simpa using hj))
        have hself : w.setRow B c0 = w := setRow_self w B c0 e0 (0, 0) hw
        rw [hself] at ev' hr'
        refine ⟨_, _, .slice (some p) 0 0, w, hexec _ _ ?_, hK B (.inl rfl), ev', hr', .sl0 B 0 _ p⟩
        rcases hsrc.kind with ⟨e', hk⟩ | hk <;> simp [Builtin.append_, run_underlying ht, run_underlying hk, sizeOf, typeInfo, hi, hsrc.len, hisz, hsrc.cells, storeCells]
      · refine grow (some p) 0 [] rfl (by omega) (by simp [hc0]) (fun j hj hk => by cases hk) ?_
        exact run_firstCells_some (P := P) w.drew i.size 0 p 0 0 [] (by simp) (fun j v hj => by cases hj)
  · exact hK.elim

theorem w_cpy (rel : Rel T N fr h a w) {o : Oper} {c : Call} {t u e e2 : TypeId} {s x : Operand} (ho : o.op = .call c) (hcal : c.callee = .builtin .copy) (hargs : c.args.toList = [s, x]) (hts : c.argTypes.toList = [t, u])
    (ht : P.underlying t = some (.slice e)) (hu : P.underlying u = some (.slice e2)) {ss sx : SX} (hs : avx N s = some ss) (hx : avx N x = some sx) (hsz : sizeT P e = some 1) {K : AV → Hp → Prop}
    (hK : cpyW (ev fr ss) (ev fr sx) h K) : WOk P o h T a w K := by
  have V1 := V.ev rel hs
  have V2 := V.ev rel hx
  have ea : c.args = #[s, x] := by rw [← Array.toArray_toList (xs := c.args), hargs]
  have et : c.argTypes = #[t, u] := by rw [← Array.toArray_toList (xs := c.argTypes), hts]
  generalize hsv : a.eval s = sv at V1
  generalize hxv : a.eval x = xv at V2
  unfold cpyW at hK
  split at hK
  · exact hK.elim
  rename_i m xs hread
  obtain ⟨news, hsrc, hnl, h1, hnv, hform⟩ := readS_sound rel.heap V2 hread hu
  have hnewsl : news.length = m * 1 := hsrc.newsLen
  have hexec : ∀ r w', (Builtin.copy_ #[t, u] o.type #[sv, xv]).run P w = .ok r w' → (execOp a.eval o).run P w = .ok (.value r) w' := by
    intro r w' hr
    simp [execOp, ho, resolve, hcal, ea, et, hsv, hxv, invoke, builtin, hr]
  split at hK
  · rename_i B off len sz hss
    rw [hss] at V1
    split at hK
    · exact hK.elim
    rename_i cs hcs
    obtain ⟨rfl, hle, hK⟩ := hK
    obtain ⟨c0, e0, hw, hle0, h1c, hvc⟩ := rel.heap.blk B cs hcs
    have hmin : (xs.take (Nat.min m len)).length = Nat.min m len := by
      rw [List.length_take]
      have : Nat.min m len ≤ m := Nat.min_le_left _ _
      omega
    have hminl : Nat.min m len ≤ len := Nat.min_le_right _ _
    have hnmin : (news.take (Nat.min m len)).length = Nat.min m len := by
      rw [List.length_take]
      have : Nat.min m len ≤ m := Nat.min_le_left _ _
      omega
    have hsp : off + (xs.take (Nat.min m len)).length ≤ cs.length := by omega
    have hwr : ∀ g : (w.setRow B (c0.toList.take off ++ news.take (Nat.min m len) ++ c0.toList.drop (off + (news.take (Nat.min m len)).length)).toArray) = (w.setRow B (c0.toList.take off ++ news.take (Nat.min m len) ++ c0.toList.drop (off + (news.take (Nat.min m len)).length)).toArray), True := fun _ => trivial
    obtain ⟨ev', hr'⟩ := write_ok rel.heap (cs' := splice cs off (xs.take (Nat.min m len))) (c' := (c0.toList.take off ++ news.take (Nat.min m len) ++ c0.toList.drop (off + (news.take (Nat.min m len)).length)).toArray) hcs hw
      (by simp only [List.size_toArray, List.length_append, List.length_take, List.length_drop, Array.length_toList] at hnmin ⊢; omega)
      (by rw [splice_length hsp]; simp only [List.size_toArray, List.length_append, List.length_take, List.length_drop, Array.length_toList] at hnmin ⊢; omega)
      (by
        rw [List.all_eq_true] at h1c h1 ⊢
        intro y hy
        simp only [splice, List.mem_append] at hy
        rcases hy with (hy | hy) | hy
        · exact h1c y (List.mem_of_mem_take hy)
        · exact h1 y (List.mem_of_mem_take hy)
        · exact h1c y (List.mem_of_mem_drop hy))
      (cov_seg cs (xs.take (Nat.min m len)) c0.toList (news.take (Nat.min m len)) (by simpa using hle0) (by omega) off (by simp only [Array.length_toList]; omega) (by omega) (fun j hj => by simpa using hvc j hj)
        (fun j hj hk => by simp only [List.getElem_take]; exact hnv _ _ _) _ (by rw [splice_length hsp]; simpa using hle0) (fun j hj => splice_get hsp (by rw [splice_length hsp] at hj; exact hj)))
    cases V1 with
    | sl b off len sz cap c e1 f hb hc hl =>
      rw [hw] at hb
      injection hb with hb
      injection hb with g1 g2 g3
      subst g1 g2 g3
      rcases hform with ⟨hx0, hm0⟩ | ⟨ad, cp, hx0, hcells⟩
      · subst hx0 hm0
        have e0' : Nat.min 0 len = 0 := Nat.zero_min _
        simp only [e0', List.take_zero, List.append_nil, List.length_nil, Nat.add_zero, List.take_append_drop, Array.toArray_toList] at ev' hr' hK
        have hself : w.setRow B c0 = w := setRow_self w B c0 _ _ hw
        rw [hself] at ev' hr'
        exact ⟨_, _, _, w, hexec _ _ (run_copy_nil (P := P) w t u o.type e _ len cap ht (by obtain ⟨i, hi, _⟩ := sizeT_spec hsz; simp [hi])), hK, ev', hr', .base _ rfl⟩
      · subst hx0
        have hrun := run_copy_row (P := P) w t u o.type e B off len cap ad m cp c0 _ (news.take (Nat.min m len)) ht hsz hw hnmin (fun j v hj => by
          rw [List.getElem?_take] at hj
          split at hj
          · exact hcells j v hj
          · cases hj) (by omega) (fun v hv => hsrc.one v (List.mem_of_mem_take hv))
        refine ⟨_, _, _, _, hexec _ _ hrun, hK, ev', hr', ?_⟩
        rw [hnmin]
        exact .base _ rfl
    | sl0 b off sz p =>
      have e0' : Nat.min m 0 = 0 := Nat.min_zero _
      simp only [e0', List.take_zero, List.append_nil, List.length_nil, Nat.add_zero, List.take_append_drop, Array.toArray_toList] at ev' hr' hK
      have hself : w.setRow B c0 = w := setRow_self w B c0 _ _ hw
      rw [hself] at ev' hr'
      refine ⟨_, _, .int .i64 0, w, hexec _ _ ?_, hK, ev', hr', .base _ rfl⟩
      obtain ⟨i, hi, hsi⟩ := sizeT_spec hsz
      have hf0 : (Builtin.firstCells i.size 0 xv).run P w = .ok #[] w := by
        rcases hform with ⟨hx0, hm0⟩ | ⟨ad, cp, hx0, hcells⟩
        · subst hx0
          exact run_firstCells_none w _ 0 0 0
        · subst hx0
          exact run_firstCells_some (P := P) w i.size 0 ad m cp [] (by simp) (fun j v hj => by cases hj)
      have hlo : ∀ w' : World, (Builtin.lenOf xv).run P w' = .ok m w' := hsrc.len
      simp [Builtin.copy_, run_underlying ht, hlo, sizeOf, typeInfo, hi, e0', hf0, storeCells, goInt]
  · exact hK.elim

/-- A store. -/
theorem w_st (rel : Rel T N fr h a w) {o : Oper} {t : TypeId} {x y : Operand} (ho : o.op = .store t x y) {n : Nat} (hn : sizeT P t = some n) {sx sy : SX} (hx : avx N x = some sx) (hy : avx N y = some sy) {K : Hp → Prop}
    (hK : stW (ev fr sx) (ev fr sy) n h K) : ∃ h' w', (execOp a.eval o).run P w = .ok .skip w' ∧ K h' ∧ Evo h w h' w' ∧ HR w' h' T := by
  have V1 := V.ev rel hx
  have V2 := V.ev rel hy
  generalize hxv : a.eval x = xv at V1
  generalize hyv : a.eval y = yv at V2
  unfold stW at hK
  split at hK
  · rename_i B off hB
    rw [hB] at V1
    split at hK
    · exact hK.elim
    rename_i cs hcs
    obtain ⟨hl, hle, h1, hK⟩ := hK
    obtain ⟨c0, e0, hw, hle0, h1c, hvc⟩ := rel.heap.blk B cs hcs
    cases V1
    obtain ⟨k1, k2⟩ := V.cells V2
    have hst := run_storeCells_at P B off e0 yv.cells.toList 0 c0 w hw (by simp only [Array.length_toList]; omega) (fun v hv => by
      obtain ⟨j, hj, rfl⟩ := List.mem_iff_getElem.1 hv
      simp only [Array.length_toList] at hj
      simp only [Array.getElem_toList]
      exact V.one (k2 j (by omega) hj) (List.all_eq_true.1 h1 _ (List.getElem_mem _)))
    simp only [Nat.add_zero, Array.length_toList] at hst
    have hsp : off + (ev fr sy).cells.length ≤ cs.length := by omega
    obtain ⟨ev', hr'⟩ := write_ok rel.heap (cs' := splice cs off (ev fr sy).cells) (c' := (c0.toList.take off ++ yv.cells.toList ++ c0.toList.drop (off + yv.cells.toList.length)).toArray) hcs hw
      (by simp; omega) (by rw [splice_length hsp]; simp; omega)
      (by
        rw [List.all_eq_true] at h1c h1 ⊢
        intro z hz
        simp only [splice, List.mem_append] at hz
        rcases hz with (hz | hz) | hz
        · exact h1c z (List.mem_of_mem_take hz)
        · exact h1 z hz
        · exact h1c z (List.mem_of_mem_drop hz))
      (cov_seg cs (ev fr sy).cells c0.toList yv.cells.toList (by simpa using hle0) (by simpa using k1) off (by simp only [Array.length_toList]; omega) (by omega) (fun j hj => by simpa using hvc j hj)
        (fun j hj hk => by simp only [Array.getElem_toList]; exact k2 _ _ _) _ (by rw [splice_length hsp]; simpa using hle0) (fun j hj => splice_get hsp (by rw [splice_length hsp] at hj; exact hj)))
    simp only [Array.length_toList] at ev' hr'
    refine ⟨_, _, ?_, hK, ev', hr'⟩
    simp only [execOp, ho, hxv, hyv, Instr.storeAt, Instr.sureAddr, storeVar, Sem.run_bind, Sem.run_pure, Result.andThen_ok, run_sizeOf' hn]
    rw [if_neg (by simp; omega)]
    simp [hst]
  · exact hK.elim

end
end Go.AM
end

section
/- The logic AM: contracts, operations with what follows, regions in the text's order and in any order. No Go program in it. -/
set_option linter.unusedSimpArgs false
set_option linter.unusedVariables false
namespace Go.AM
open Go

/-- THE CONTRACT of a function, called with 'avs' beside the live blocks 'h': it returns a value and live blocks of which R tells. -/
def Spec (P : Program) (f : FuncId) (avs : List AV) (h : Hp) (R : AV → Hp → Prop) : Prop :=
  (∃ fn, P.funcs[f]? = some fn ∧ (fn.name == "runtime.NumGoroutine") = false ∧ fn.body.isNone = false) ∧
  ∀ (T : Nat → Prop) (w : World) (vals : Array Value), HR w h T → Cov w h T avs vals →
    Calls P f vals w fun e w' => ∃ v h' r, e = .returned r ∧ R v h' ∧ Evo h w h' w' ∧ HR w' h' T ∧ V w' h' T v r

theorem Spec.mono {P : Program} {f : FuncId} {avs : List AV} {h : Hp} {R R' : AV → Hp → Prop} (s : Spec P f avs h R) (hr : ∀ v h', R v h' → R' v h') : Spec P f avs h R' :=
  ⟨s.1, fun T w vals hh hc => (s.2 T w vals hh hc).mono fun e w' ⟨v, h', r, g1, g2, g3⟩ => ⟨v, h', r, g1, hr _ _ g2, g3⟩⟩

/-- The heap has only grown. -/
def Ext (h h' : Hp) : Prop := ∀ b cs, h b = some cs → h' b = some cs

/-- The callee. -/
def callee (fr : Fr) (f : SX) (xs : List SX) : Option (FuncId × List AV) :=
  match ev fr f with
  | .fn i first cap => some (i, first ++ xs.map (ev fr) ++ cap)
  | _ => none

/-- A call, as what follows must hold. Mode 0: any; 1: a call that leaves the live blocks alone; 2: a call that only adds to them. -/
def callW (P : Program) (md : Nat) (fr : Fr) (f : SX) (xs : List SX) (h : Hp) (K : AV → Hp → Prop) : Prop :=
  match callee fr f xs with
  | none => False
  | some (i, avs) => match md with
    | 0 => Spec P i avs h K
    | 1 => ∃ r, Spec P i avs h (fun v h' => v = r ∧ h' = h) ∧ K r h
    | _ => Spec P i avs h (fun v h' => Ext h h' ∧ K v h')

/-- Reads that may come behind a store: they read the same. -/
def keeps (fr : Fr) (h h' : Hp) : List (Nat × Nat) → Prop
  | [] => True
  | (x, n) :: r => cellsAt h' (fr x) n = cellsAt h (fr x) n ∧ keeps fr h h' r

inductive Cls where
  | det | mem | app | cpy | st | call
  deriving DecidableEq

def cls : SO → Cls
  | .new _ | .box _ | .mkl .. | .mks .. => .mem
  | .app .. => .app
  | .cpy .. => .cpy
  | .st .. => .st
  | .call .. => .call
  | _ => .det

structure GOp where
  g : Option (Nat × Bool)
  d : Option Nat
  o : SO
  /-- the mode of a call -/
  md : Nat
  /-- reads that may come behind a store -/
  keep : List (Nat × Nat)
  deriving Inhabited

/-- What an operation comes to, of its value and of the live blocks behind it. -/
def eff1 (P : Program) (o : GOp) (fr : Fr) (h : Hp) (R : AV → Hp → Prop) : Prop :=
  match o.o with
  | .app s x sz => appW (ev fr s) (ev fr x) sz h R
  | .cpy s x _ => cpyW (ev fr s) (ev fr x) h R
  | .st x v n => stW (ev fr x) (ev fr v) n h (fun h' => keeps fr h h' o.keep ∧ R (.tup []) h')
  | .call f xs => callW P o.md fr f xs h R
  | so => match cls so with
    | .mem => match mem so fr with
      | some (cs, mk) => ∀ b, h b = none → R (mk b) (hset h b cs)
      | none => False
    | _ => match det so fr h with
      | some v => R v h
      | none => False

def eff (P : Program) (o : GOp) (fr : Fr) (h : Hp) (R : AV → Hp → Prop) : Prop :=
  match o.g with
  | none => eff1 P o fr h R
  | some (s, want) => match fr s with
    | .base (.bool b) => if b = want then eff1 P o fr h R else R (.tup []) h
    | .tup [] => R (.tup []) h
    | _ => False

def aop (P : Program) (o : GOp) (K : Fr → Hp → Prop) (fr : Fr) (h : Hp) : Prop := eff P o fr h (fun v h' => K (updO fr o.d v) h')

def aops (P : Program) (K : Fr → Hp → Prop) : List GOp → Fr → Hp → Prop
  | [] => K
  | o :: os => aop P o (aops P K os)

def goodD (N : Nat) : Option Nat → Bool
  | some d => decide (d < N)
  | none => true

/-- The mode of a call. -/
def modeOf (md : FuncId → Nat) : SO → Nat
  | .call (.f i) _ => md i
  | .call _ _ => md 0
  | _ => 0

def cgop (P : Program) (N : Nat) (md : FuncId → Nat) (ops : Array Oper) (o : Oper) : Option GOp :=
  match cop P N o with
  | none => none
  | some so => if goodD N o.dst then
      match o.guard with
      | none => some { g := none, d := o.dst, o := so, md := modeOf md so, keep := [] }
      | some (j, want) => match (ops[j]?).bind (·.dst) with
        | some s => if s < N then some { g := some (s, want), d := o.dst, o := so, md := modeOf md so, keep := [] } else none
        | none => none
    else none

section
variable {P : Program} {T : Nat → Prop} {N : Nat} {fr : Fr} {h : Hp} {a : Act} {w : World}

/-- Where an operation may come to. -/
def St (T : Nat → Prop) (N : Nat) (h : Hp) (w : World) (K : Fr → Hp → Prop) (a' : Act) (w' : World) : Prop := ∃ fr' h', K fr' h' ∧ Rel T N fr' h' a' w' ∧ Evo h w h' w'

theorem Rel.mono (rel : Rel T N fr h a w) {h' : Hp} {w' : World} (ev : Evo h w h' w') (hr : HR w' h' T) : Rel T N fr h' a w' :=
  ⟨fun t ht => (rel.slots t ht).mono ev, rel.size, rel.defers, hr⟩

theorem Rel.put (rel : Rel T N fr h a w) {d : Option Nat} (hd : goodD N d = true) {v : AV} {r : Value} (hv : V w h T v r) : Rel T N (updO fr d v) h (a.put d r) w := by
  cases d with
  | none => exact rel
  | some d =>
    simp only [goodD, decide_eq_true_eq] at hd
    refine ⟨fun t ht => ?_, by simpa [Act.put] using rel.size, rel.defers, rel.heap⟩
    simp only [updO, upd, Act.put]
    by_cases htd : t = d
    · subst htd
      rw [if_pos rfl]
      have : (a.tmps.setIfInBounds t r).getD t undef = r := by simp [Array.getD, rel.size, ht]
      rw [this]
      exact hv
    · rw [if_neg htd]
      have : (a.tmps.setIfInBounds d r).getD t undef = a.tmps.getD t undef := by
        rw [Array.getD_eq_getD_getElem?, Array.getD_eq_getD_getElem?, Array.getElem?_setIfInBounds_ne (Ne.symm htd)]
      rw [this]
      exact rel.slots t ht

theorem V.undef : V w h T (.tup []) undef := .tup [] #[] rfl (fun j hj => by cases hj)

def boolOf : Value → Option Bool
  | .bool b => some b
  | _ => none

theorem wantedOf (rel : Rel T N fr h a w) {ops : Array Oper} {o : Oper} {j s : Nat} {want : Bool} (hg : o.guard = some (j, want)) (hs : (ops[j]?).bind (·.dst) = some s) (hlt : s < N) :
    (∀ b, fr s = .base (.bool b) → Region.wanted o (yielded ops a.tmps) = (b == want)) ∧ (fr s = .tup [] → Region.wanted o (yielded ops a.tmps) = false) := by
  have hsl := rel.slots s hlt
  obtain ⟨u, hu, hu2⟩ : ∃ u, a.tmps[s]? = some u ∧ a.tmps.getD s Go.undef = u := by
    have hss : s < a.tmps.size := by rw [rel.size]; exact hlt
    refine ⟨a.tmps[s], Array.getElem?_eq_getElem hss, ?_⟩
    rw [Array.getD_eq_getD_getElem?, Array.getElem?_eq_getElem hss]
    rfl
  rw [hu2] at hsl
  have hy : yielded ops a.tmps j = boolOf u := by
    simp only [yielded, hs, Option.bind_some, hu]
    clear hsl hu2 hu
    cases u <;> rfl
  refine ⟨fun b hb => ?_, fun hb => ?_⟩
  · rw [hb] at hsl
    cases hsl
    simp only [Region.wanted, hg, hy, boolOf, Go.undef]
    cases b <;> cases want <;> rfl
  · rw [hb] at hsl
    cases hsl
    simp only [Region.wanted, hg, hy, boolOf, Go.undef]
    cases want <;> rfl

theorem upon_value {o : Oper} {v : Value} {w' : World} {K : Act → World → Prop} {Q : Exit → Act → World → Prop} (hr : (execOp a.eval o).run P w = .ok (.value v) w') (hK : K (a.put o.dst v) w') : o.wp P a w K Q := by
  unfold Oper.wp
  rw [hr]
  exact hK

theorem upon_skip {o : Oper} {w' : World} {K : Act → World → Prop} {Q : Exit → Act → World → Prop} (hr : (execOp a.eval o).run P w = .ok .skip w') (hK : K (a.put o.dst Go.undef) w') : o.wp P a w K Q := by
  unfold Oper.wp
  rw [hr]
  exact hK

theorem Cov.append {cs ds : List AV} {A B : Array Value} (hA : Cov w h T cs A) (hB : Cov w h T ds B) : Cov w h T (cs ++ ds) (A ++ B) := by
  refine ⟨by rw [Array.size_append, List.length_append, hA.size, hB.size], fun j hj hk => ?_⟩
  have hs := hA.size
  have hs2 := hB.size
  by_cases h1 : j < cs.length
  · rw [List.getElem_append_left h1, Array.getElem_append_left (by omega)]
    exact hA.val j h1 (by omega)
  · rw [List.getElem_append_right (by omega), Array.getElem_append_right (by omega)]
    rw [List.length_append] at hj
    have := hB.val (j - cs.length) (by omega) (by omega)
    simpa only [hs] using this

theorem call_sound (rel : Rel T N fr h a w) {o : Oper} {c : Call} {f : Operand} (ho : o.op = .call c) (hcal : c.callee = .value f) {sf : SX} {sx : List SX} (hf : avx N f = some sf) (hx : c.args.toList.mapM (avx N) = some sx) {i : FuncId} {avs : List AV}
    (hc : callee fr sf sx = some (i, avs)) {K : AV → Hp → Prop} (hs : Spec P i avs h K) {K' : Act → World → Prop} {Q : Exit → Act → World → Prop}
    (hK : ∀ v h' r w', K v h' → Evo h w h' w' → HR w' h' T → V w' h' T v r → K' (a.put o.dst r) w') : o.wp P a w K' Q := by
  have V1 := V.ev rel hf
  have hX := Cov.operands rel hx
  unfold callee at hc
  split at hc
  · rename_i i' first cap hfn
    injection hc with hc
    injection hc with g1 g2
    subst g1 g2
    rw [hfn] at V1
    generalize hfv : a.eval f = fv at V1
    cases V1 with
    | fn _ _ _ vs us hl hv hl2 hv2 =>
      obtain ⟨⟨fn, hfun, hnm, hbody⟩, hspec⟩ := hs
      have hcov : Cov w h T (first ++ sx.map (ev fr) ++ cap) (vs ++ c.args.map a.eval ++ us) :=
        (Cov.append ⟨hl, hv⟩ hX).append ⟨hl2, hv2⟩
      have hrun : (execOp a.eval o).run P w = .ok (.enter i' (vs ++ c.args.map a.eval ++ us)) w := by
        have hnm' : ¬ fn.name = "runtime.NumGoroutine" := by simpa using hnm
        have hbody' : ¬ fn.body = none := by
          intro h0
          rw [h0] at hbody
          cases hbody
        simp [execOp, ho, resolve, hcal, hfv, Deferred.ofValue, invoke, callFunc, hfun, hnm', hbody']
      unfold Oper.wp
      rw [hrun]
      refine (hspec T w _ rel.heap hcov).mono fun e w' he => ?_
      obtain ⟨v, h', r, rfl, g1, g2, g3, g4⟩ := he
      exact hK v h' r w' g1 g2 g3 g4
  · cases hc

theorem cop_call {o : Oper} {f : SX} {xs : List SX} (hc : cop P N o = some (.call f xs)) : ∃ c g, o.op = .call c ∧ c.callee = .value g ∧ avx N g = some f ∧ c.args.toList.mapM (avx N) = some xs := by
  unfold cop at hc
  cases ho : o.op <;> simp only [ho] at hc
  case unOp op t x => cases op <;> simp at hc
  case makeFunc fn x y => cases fn <;> simp at hc <;> (split at hc <;> simp at hc)
  all_goals (repeat' split at hc)
  all_goals first | (cases hc; done) | (simp at hc; done) | skip
  all_goals (cases hc; exact ⟨_, _, rfl, by assumption, by assumption, by assumption⟩)

theorem cop_st {o : Oper} {x v : SX} {n : Nat} (hc : cop P N o = some (.st x v n)) : ∃ t y z, o.op = .store t y z ∧ sizeT P t = some n ∧ avx N y = some x ∧ avx N z = some v := by
  unfold cop at hc
  cases ho : o.op <;> simp only [ho] at hc
  case unOp op t x => cases op <;> simp at hc
  case makeFunc fn x y => cases fn <;> simp at hc <;> (split at hc <;> simp at hc)
  all_goals (repeat' split at hc)
  all_goals first | (cases hc; done) | (simp at hc; done) | skip
  all_goals (cases hc; exact ⟨_, _, _, rfl, by assumption, by assumption, by assumption⟩)

theorem elemT_spec {t e : TypeId} (h : elemT P t = some e) : P.underlying t = some (.slice e) := by
  unfold elemT at h
  split at h
  · rename_i he
    injection h with h
    rw [← h]
    exact he
  · cases h

theorem cop_app {o : Oper} {s x : SX} {sz : Nat} (hc : cop P N o = some (.app s x sz)) : ∃ c t u e e2 y z i zs, o.op = .call c ∧ c.callee = .builtin .append ∧ c.args.toList = [y, z] ∧ c.argTypes.toList = [t, u] ∧ P.underlying t = some (.slice e) ∧
    P.underlying u = some (.slice e2) ∧ avx N y = some s ∧ avx N z = some x ∧ sizeT P e = some sz ∧ zeroT P e = some zs ∧ P.info? e = some i ∧ zs.length = sz ∧ i.bytes ≤ 4096 := by
  unfold cop at hc
  cases ho : o.op <;> simp only [ho] at hc
  case unOp op t x => cases op <;> simp at hc
  case makeFunc fn x y => cases fn <;> simp at hc <;> (split at hc <;> simp at hc)
  all_goals (repeat' split at hc)
  all_goals first | (cases hc; done) | (simp at hc; done) | skip
  all_goals
    cases hc
    rename_i hcc
    exact ⟨_, _, _, _, _, _, _, _, _, rfl, by assumption, by assumption, by assumption, elemT_spec (by assumption), elemT_spec (by assumption), by assumption, by assumption, by assumption, by assumption, by assumption, hcc.1, hcc.2⟩

theorem cop_cpy {o : Oper} {s x : SX} {sz : Nat} (hc : cop P N o = some (.cpy s x sz)) : ∃ c t u e y z, o.op = .call c ∧ c.callee = .builtin .copy ∧ c.args.toList = [y, z] ∧ c.argTypes.toList = [t, u] ∧ P.underlying t = some (.slice e) ∧
    (∃ e2, P.underlying u = some (.slice e2)) ∧ avx N y = some s ∧ avx N z = some x ∧ sizeT P e = some 1 := by
  unfold cop at hc
  cases ho : o.op <;> simp only [ho] at hc
  case unOp op t x => cases op <;> simp at hc
  case makeFunc fn x y => cases fn <;> simp at hc <;> (split at hc <;> simp at hc)
  all_goals (repeat' split at hc)
  all_goals first | (cases hc; done) | (simp at hc; done) | skip
  all_goals
    cases hc
    rename_i hcc
    exact ⟨_, _, _, _, _, _, rfl, by assumption, by assumption, by assumption, elemT_spec (by assumption), ⟨_, elemT_spec (by assumption)⟩, by assumption, by assumption, by assumption⟩

theorem cop_mem (rel : Rel T N fr h a w) {o : Oper} {so : SO} (hc : cop P N o = some so) {cs : List AV} {mk : Nat → AV} (hm : mem so fr = some (cs, mk)) : MemOk P o h T a w cs mk := by
  unfold cop at hc
  cases ho : o.op <;> simp only [ho] at hc
  case alloc t =>
    simp only [Option.map_eq_some_iff] at hc
    obtain ⟨z, hz, rfl⟩ := hc
    exact m_new rel ho hz hm
  case box t x =>
    simp only [Option.map_eq_some_iff] at hc
    obtain ⟨sx, hx, rfl⟩ := hc
    exact m_box rel ho hx hm
  case buildSlice t len parts =>
    split at hc
    · split at hc
      · split at hc
        · rename_i hcc
          cases hc
          exact m_mkl rel ho (elemT_spec (by assumption)) (by assumption) (by assumption) (by assumption) hcc.1 hcc.2 hm
        · cases hc
      · cases hc
    · cases hc
  case makeSlice t l c =>
    split at hc
    · split at hc
      · split at hc
        · rename_i hcc
          cases hc
          obtain ⟨rfl, h8, h9⟩ := hcc
          exact m_mks rel ho (elemT_spec (by assumption)) (by assumption) (by assumption) (by assumption) (by assumption) (by assumption) h8 h9 hm
        · cases hc
      · cases hc
    · cases hc
  case unOp op t x =>
    cases op <;> simp only [reduceCtorEq, Option.map_eq_some_iff] at hc
    · obtain ⟨_, _, rfl⟩ := hc
      cases hm
    · obtain ⟨_, _, rfl⟩ := hc
      cases hm
  case makeFunc fn x y =>
    cases fn <;> simp only [reduceCtorEq] at hc
    split at hc
    · cases hc
      cases hm
    · cases hc
  all_goals (repeat' split at hc)
  all_goals first | (cases hc; done) | skip
  all_goals (simp only [Option.map_eq_some_iff, Option.some.injEq] at hc)
  all_goals first | (subst hc; cases hm; done) | (obtain ⟨_, _, rfl⟩ := hc; cases hm; done)

theorem aop1_sound (rel : Rel T N fr h a w) {o : Oper} {g : GOp} (hc : cop P N o = some g.o) (hd : goodD N o.dst = true) (hgd : g.d = o.dst) {K : Fr → Hp → Prop} (hK : eff1 P g fr h (fun v h' => K (updO fr g.d v) h')) {Q : Exit → Act → World → Prop} :
    o.wp P a w (St T N h w K) Q := by
  have fin : ∀ {v : AV} {h' : Hp} {r : Value} {w' : World}, K (updO fr g.d v) h' → Evo h w h' w' → HR w' h' T → V w' h' T v r → St T N h w K (a.put o.dst r) w' := by
    intro v h' r w' hK ev hr hv
    refine ⟨_, h', hK, ?_, ev⟩
    rw [hgd]
    exact (rel.mono ev hr).put hd hv
  have wok : ∀ {K' : AV → Hp → Prop}, WOk P o h T a w K' → (∀ v h', K' v h' → K (updO fr g.d v) h') → o.wp P a w (St T N h w K) Q := by
    intro K' hw hk
    obtain ⟨v, h', r, w', hrun, h1, h2, h3, h4⟩ := hw
    exact upon_value hrun (fin (hk _ _ h1) h2 h3 h4)
  unfold eff1 at hK
  split at hK
  · rename_i s x sz hgo
    rw [hgo] at hc
    obtain ⟨c, t, u, e, e2, y, z, i, zs, h1, h2, h3, h4, h5, h6, h7, h8, h9, h10, h11, h12, h13⟩ := cop_app hc
    exact wok (w_app rel h1 h2 h3 h4 h5 h6 h7 h8 h9 h10 h11 h12 h13 hK) (fun _ _ h => h)
  · rename_i s x sz hgo
    rw [hgo] at hc
    obtain ⟨c, t, u, e, y, z, h1, h2, h3, h4, h5, ⟨e2, h6⟩, h7, h8, h9⟩ := cop_cpy hc
    exact wok (w_cpy rel h1 h2 h3 h4 h5 h6 h7 h8 h9 hK) (fun _ _ h => h)
  · rename_i x v n hgo
    rw [hgo] at hc
    obtain ⟨t, y, z, h1, h2, h3, h4⟩ := cop_st hc
    obtain ⟨h', w', hrun, hK, ev, hr⟩ := w_st rel h1 h2 h3 h4 hK
    exact upon_skip hrun (fin hK.2 ev hr V.undef)
  · rename_i f xs hgo
    rw [hgo] at hc
    obtain ⟨c, gf, h1, h2, h3, h4⟩ := cop_call hc
    unfold callW at hK
    split at hK
    · exact hK.elim
    · rename_i i avs hcal
      split at hK
      · exact call_sound rel h1 h2 h3 h4 hcal hK (fun v h' r w' k1 k2 k3 k4 => fin k1 k2 k3 k4)
      · obtain ⟨r, hs, hK⟩ := hK
        refine call_sound rel h1 h2 h3 h4 hcal hs (fun v h' r' w' k1 k2 k3 k4 => ?_)
        obtain ⟨rfl, rfl⟩ := k1
        exact fin hK k2 k3 k4
      · exact call_sound rel h1 h2 h3 h4 hcal hK (fun v h' r w' k1 k2 k3 k4 => fin k1.2 k2 k3 k4)
  · split at hK
    · split at hK
      · rename_i cs mk hm
        obtain ⟨b, r, w', hrun, h1, h2, h3, h4⟩ := cop_mem rel hc hm
        exact upon_value hrun (fin (hK b h1) h2 h3 h4)
      · exact hK.elim
    · split at hK
      · rename_i v hv
        obtain ⟨r, hrun, hV⟩ := det_sound rel hc hv
        exact upon_value hrun (fin hK (Evo.refl _ _) rel.heap hV)
      · exact hK.elim

/-- An operation, with its guard. -/
theorem aop_sound (rel : Rel T N fr h a w) {ops : Array Oper} {md : FuncId → Nat} {o : Oper} {g : GOp} {g0 : GOp} (hc : cgop P N md ops o = some g0) (h1 : g.o = g0.o) (h2 : g.d = g0.d) (h3 : g.g = g0.g) {K : Fr → Hp → Prop} (hK : aop P g K fr h)
    {Q : Exit → Act → World → Prop} : if Region.wanted o (yielded ops a.tmps) then o.wp P a w (St T N h w K) Q else St T N h w K (a.put o.dst Go.undef) w := by
  unfold cgop at hc
  split at hc
  · cases hc
  rename_i so hso
  split at hc
  case isFalse => cases hc
  rename_i hd
  have skip : K (updO fr o.dst (.tup [])) h → St T N h w K (a.put o.dst Go.undef) w := fun hk => ⟨_, h, hk, rel.put hd V.undef, Evo.refl _ _⟩
  split at hc
  · rename_i hg
    cases hc
    simp only at h1 h2 h3
    unfold aop eff at hK
    rw [h3] at hK
    rw [if_pos (by simp [Region.wanted, hg])]
    exact aop1_sound rel (by rw [h1]; exact hso) hd h2 hK
  · rename_i j want hg
    split at hc
    · rename_i s hs
      split at hc
      · rename_i hlt
        cases hc
        simp only at h1 h2 h3
        obtain ⟨w1, w2⟩ := wantedOf rel hg hs hlt
        unfold aop eff at hK
        rw [h3] at hK
        simp only at hK
        split at hK
        · rename_i b hb
          rw [w1 b hb]
          split at hK
          · rename_i hbw
            subst hbw
            rw [if_pos (by simp)]
            exact aop1_sound rel (by rw [h1]; exact hso) hd h2 hK
          · rename_i hbw
            rw [if_neg (by simpa using hbw)]
            rw [h2] at hK
            exact skip hK
        · rename_i hb
          rw [w2 hb, if_neg (by simp)]
          rw [h2] at hK
          exact skip hK
        · exact hK.elim
      · cases hc
    · cases hc

end
end Go.AM
end

section
/- The logic AM: two operations that do not touch each other may come in either order. No Go program in it. -/
set_option linter.unusedSimpArgs false
set_option linter.unusedVariables false
namespace Go.AM
open Go

/-! ### What an operation looks at -/

def SX.slot : SX → List Nat
  | .t n => [n]
  | _ => []

def SO.xs : SO → List SX
  | .mv x | .ld x _ _ | .nc x | .not x | .neg x | .isnil _ x | .cvt _ x | .fadr x _ | .fld x _ _ _ | .ext x _ | .len x | .box x => [x]
  | .pick c a b => [c, a, b]
  | .bin _ x y | .min x y | .iadr x y _ | .iarr x y _ _ | .eqs _ _ x y | .app x y _ | .cpy x y _ | .st x y _ => [x, y]
  | .slc x lo hi mx _ => x :: (lo.toList ++ hi.toList ++ mx.toList)
  | .build _ ps | .mkl _ _ _ ps => ps.map fun p => p.2.2
  | .mkf _ a b => a ++ b
  | .mks x _ _ => [x]
  | .call f xs => f :: xs
  | .new _ => []

def GOp.uses (o : GOp) : List Nat := (o.o.xs.flatMap SX.slot) ++ (match o.g with
  | some (s, _) => [s]
  | none => []) ++ o.keep.map (·.1)

section
variable {P : Program} {fr fr' : Fr} {h : Hp}

theorem ev_congr {x : SX} (hx : ∀ s ∈ x.slot, fr s = fr' s) : ev fr x = ev fr' x := by
  cases x with
  | t n => exact hx n (by simp [SX.slot])
  | k v => rfl
  | f i => rfl

theorem map_ev_congr {xs : List SX} (hx : ∀ s ∈ xs.flatMap SX.slot, fr s = fr' s) : xs.map (ev fr) = xs.map (ev fr') := by
  apply List.map_congr_left
  intro x hxm
  exact ev_congr fun s hs => hx s (List.mem_flatMap.2 ⟨x, hxm, hs⟩)

theorem parts_congr {ps : List (Nat × Nat × SX)} (hx : ∀ s ∈ (ps.map fun p => p.2.2).flatMap SX.slot, fr s = fr' s) :
    (ps.map fun (a, b, x) => (a, b, ev fr x)) = ps.map fun (a, b, x) => (a, b, ev fr' x) := by
  apply List.map_congr_left
  rintro ⟨a, b, x⟩ hxm
  have : ev fr x = ev fr' x := ev_congr fun s hs => hx s (List.mem_flatMap.2 ⟨x, List.mem_map.2 ⟨_, hxm, rfl⟩, hs⟩)
  simp only [this]

theorem eff1_congr {o : GOp} (hx : ∀ s ∈ o.uses, fr s = fr' s) (R : AV → Hp → Prop) : eff1 P o fr h R = eff1 P o fr' h R := by
  obtain ⟨g, d, so, md, keep⟩ := o
  have hk : ∀ h', keeps fr h h' keep = keeps fr' h h' keep := by
    intro h'
    have hkk : ∀ s ∈ keep.map (·.1), fr s = fr' s := fun s hs => hx s (by simp only [GOp.uses, List.mem_append]; exact .inr hs)
    clear hx
    induction keep with
    | nil => rfl
    | cons p r ih =>
      obtain ⟨x, n⟩ := p
      simp only [keeps]
      rw [hkk x (by simp), ih (fun s hs => hkk s (by simp only [List.map_cons, List.mem_cons]; exact .inr hs))]
  have ho : ∀ s ∈ so.xs.flatMap SX.slot, fr s = fr' s := fun s hs => hx s (by simp only [GOp.uses, List.mem_append]; exact .inl (.inl hs))
  clear hx
  have one : ∀ x ∈ so.xs, ev fr x = ev fr' x := fun x hxm => ev_congr fun s hs => ho s (List.mem_flatMap.2 ⟨x, hxm, hs⟩)
  cases so
  case slc x lo hi mx sz =>
    have e1 := one x (by simp [SO.xs])
    have e2 : ∀ d, bound fr lo d = bound fr' lo d := by
      intro d
      cases lo with
      | none => rfl
      | some y => simp only [bound]; rw [one y (by simp [SO.xs])]
    have e3 : ∀ d, bound fr hi d = bound fr' hi d := by
      intro d
      cases hi with
      | none => rfl
      | some y => simp only [bound]; rw [one y (by simp [SO.xs])]
    cases mx with
    | none => simp only [eff1, cls, det, e1, e2, e3]
    | some y =>
      have e4 := one y (by simp [SO.xs])
      simp only [eff1, cls, det, e1, e2, e3, e4]
  case build z ps =>
    simp only [eff1, cls, det]
    rw [parts_congr ho]
  case mkl n s z ps =>
    simp only [eff1, cls, mem]
    rw [parts_congr ho]
  case mkf f a b =>
    simp only [eff1, cls, det]
    rw [map_ev_congr (xs := a) (fun s hs => ho s (by simp only [SO.xs, List.flatMap_append, List.mem_append]; exact .inl hs)),
      map_ev_congr (xs := b) (fun s hs => ho s (by simp only [SO.xs, List.flatMap_append, List.mem_append]; exact .inr hs))]
  case call f xs =>
    have e1 := one f (by simp [SO.xs])
    have e2 : xs.map (ev fr) = xs.map (ev fr') := map_ev_congr (fun s hs => ho s (by simp only [SO.xs, List.flatMap_cons, List.mem_append]; exact .inr hs))
    simp only [eff1, callW, callee, e1, e2]
  case st x v n =>
    have e1 := one x (by simp [SO.xs])
    have e2 := one v (by simp [SO.xs])
    simp only [eff1, e1, e2, hk]
  all_goals simp only [SO.xs, List.mem_cons, List.not_mem_nil, or_false, forall_eq_or_imp, forall_eq, false_or] at one
  all_goals first
    | (obtain ⟨e1, e2, e3⟩ := one; simp only [eff1, cls, det, mem, e1, e2, e3]; done)
    | (obtain ⟨e1, e2⟩ := one; simp only [eff1, cls, det, mem, e1, e2]; done)
    | (simp only [eff1, cls, det, mem, one]; done)
    | (simp only [eff1, cls, det, mem]; done)

theorem eff_congr {o : GOp} (hx : ∀ s ∈ o.uses, fr s = fr' s) (R : AV → Hp → Prop) : eff P o fr h R = eff P o fr' h R := by
  have e1 := eff1_congr (P := P) (h := h) hx R
  unfold eff
  rw [e1]
  cases hg : o.g with
  | none => rfl
  | some p =>
    obtain ⟨s, want⟩ := p
    have : fr s = fr' s := hx s (by simp [GOp.uses, hg])
    simp only [this]

theorem eff_updO {o : GOp} {d : Option Nat} (hd : ∀ s, d = some s → s ∉ o.uses) (v : AV) (R : AV → Hp → Prop) : eff P o (updO fr d v) h R = eff P o fr h R := by
  refine eff_congr (fun s hs => ?_) R
  cases d with
  | none => rfl
  | some t =>
    have : s ≠ t := fun he => hd t rfl (he ▸ hs)
    simp [updO, upd, this]

theorem updO_comm {d e : Option Nat} (hde : ∀ s, d = some s → e ≠ some s) (v u : AV) : updO (updO fr d v) e u = updO (updO fr e u) d v := by
  cases d with
  | none => rfl
  | some s =>
    cases e with
    | none => rfl
    | some t =>
      have hst : s ≠ t := fun he => hde s rfl (by rw [he])
      funext x
      simp only [updO, upd]
      by_cases h1 : x = t
      · by_cases h2 : x = s
        · exact absurd (h2.symm.trans h1) hst
        · rw [if_pos h1, if_neg h2, if_pos h1]
      · rw [if_neg h1]
        by_cases h2 : x = s
        · rw [if_pos h2, if_pos h2]
        · rw [if_neg h2, if_neg h2, if_neg h1]

/-! ### Growing heaps -/

/-- Every live block is there, at least as long. -/
def Ext1 (h h' : Hp) : Prop := ∀ b cs, h b = some cs → ∃ ds, h' b = some (cs ++ ds)

theorem Ext1.refl (h : Hp) : Ext1 h h := fun b cs hb => ⟨[], by simpa using hb⟩
theorem Ext1.hset {h : Hp} {b : Nat} (cs : List AV) (hb : h b = none) : Ext1 h (hset h b cs) := fun x xs hx => ⟨[], by
  have : x ≠ b := fun he => by rw [he, hb] at hx; cases hx
  simp [AM.hset, this, hx]⟩
theorem Ext.ext1 {h h' : Hp} (e : Ext h h') : Ext1 h h' := fun b cs hb => ⟨[], by simpa using e b cs hb⟩

theorem cellsAt_ext {h h' : Hp} (e : Ext1 h h') {x : AV} {n : Nat} {cs : List AV} (hc : cellsAt h x n = some cs) : cellsAt h' x n = some cs := by
  cases x <;> simp only [cellsAt, reduceCtorEq] at hc ⊢
  · split at hc
    · rename_i b off cs0 hb
      obtain ⟨ds, hb'⟩ := e _ _ hb
      rw [hb']
      split at hc
      · rename_i hle
        simp only
        rw [if_pos (by rw [List.length_append]; omega), ← hc]
        congr 1
        rw [List.drop_append_of_le_length (by omega), List.take_append_of_le_length (by simp; omega)]
      · cases hc
    · cases hc
  · exact hc

theorem readS_ext {h h' : Hp} (e : Ext1 h h') {x : AV} {sz : Nat} {r : Nat × List AV} (hc : readS h x sz = some r) : readS h' x sz = some r := by
  cases x <;> simp only [readS, reduceCtorEq] at hc ⊢
  · exact hc
  · split at hc
    · rename_i b off len sz' cs0 hb
      obtain ⟨ds, hb'⟩ := e _ _ hb
      rw [hb']
      split at hc
      · rename_i hle
        simp only
        rw [if_pos ⟨hle.1, by rw [List.length_append]; omega⟩, ← hc]
        congr 2
        rw [List.drop_append_of_le_length (by omega), List.take_append_of_le_length (by simp; omega)]
      · cases hc
    · cases hc
  · exact hc

theorem hset_comm {h : Hp} {a b : Nat} (hab : a ≠ b) (xs ys : List AV) : hset (hset h a xs) b ys = hset (hset h b ys) a xs := by
  funext x
  simp only [hset]
  by_cases h1 : x = b
  · have : x ≠ a := fun he => hab (he.symm.trans h1)
    rw [if_pos h1, if_neg this, if_pos h1]
  · rw [if_neg h1, if_neg h1]

/-! ### The frame rule -/

theorem V.change {w : World} {h1 h2 : Hp} {T1 T2 : Nat → Prop} (hc : ∀ b, b < w.heap.size → h1 b = none → ¬ T1 b → h2 b = none ∧ ¬ T2 b) {x : AV} {v : Value} (hv : V w h1 T1 x v) : V w h2 T2 x v := by
  induction hv with
  | base v hv => exact .base v hv
  | nilp => exact .nilp
  | nils => exact .nils
  | ref b off hb => exact .ref b off hb
  | sl b off len sz cap c e f hb hc hl => exact .sl b off len sz cap c e f hb hc hl
  | sl0 b off sz a => exact .sl0 b off sz a
  | fp cells b off c e f vs hb hh hT h1 hcc _ ih =>
    obtain ⟨g1, g2⟩ := hc b (Array.getElem?_eq_some_iff.1 hb).1 hh hT
    exact .fp cells b off c e f vs hb g1 g2 h1 hcc ih
  | fs n cells b off cap c e f vs hb hh hT h1 hcc _ hn ih =>
    obtain ⟨g1, g2⟩ := hc b (Array.getElem?_eq_some_iff.1 hb).1 hh hT
    exact .fs n cells b off cap c e f vs hb g1 g2 h1 hcc ih hn
  | fs0 a cap => exact .fs0 a cap
  | agg cells vs hl _ ih => exact .agg cells vs hl ih
  | tup cells vs hl _ ih => exact .tup cells vs hl ih
  | fn f first cap vs us hl _ hl2 _ ih1 ih2 => exact .fn f first cap vs us hl ih1 hl2 ih2

/-- A contract holds beside one more live block, which stays as it is. -/
theorem Spec.frame {f : FuncId} {avs : List AV} {R : AV → Hp → Prop} (s : Spec P f avs h R) {b : Nat} (hb : h b = none) (cs : List AV) :
    Spec P f avs (hset h b cs) (fun v h'' => ∃ h', R v h' ∧ h' b = none ∧ h'' = hset h' b cs) := by
  refine ⟨s.1, fun T w vals hr hc => ?_⟩
  have go : ∀ x, x < w.heap.size → hset h b cs x = none → ¬ T x → h x = none ∧ ¬ (T x ∨ x = b) := by
    intro x _ hx hT
    simp only [hset] at hx
    by_cases hxb : x = b
    · rw [if_pos hxb] at hx; cases hx
    · rw [if_neg hxb] at hx
      exact ⟨hx, fun hh => hh.elim hT hxb⟩
  have hbs : hset h b cs b = some cs := by simp [hset]
  have hblt : b < w.heap.size := by
    obtain ⟨c, e, hw, _⟩ := hr.blk b cs hbs
    exact (Array.getElem?_eq_some_iff.1 hw).1
  have hr1 : HR w h (fun x => T x ∨ x = b) := by
    refine ⟨fun x xs hx => ?_, fun x hx => ?_⟩
    · have hxb : x ≠ b := fun he => by rw [he, hb] at hx; cases hx
      obtain ⟨c, e, g1, g2, g3, g4⟩ := hr.blk x xs (by simp [hset, hxb, hx])
      refine ⟨c, e, g1, g2, g3, fun j hj => ?_⟩
      obtain ⟨v, k1, k2⟩ := g4 j hj
      exact ⟨v, k1, k2.change go⟩
    · rcases hx with hx | hx
      · obtain ⟨k1, k2⟩ := hr.held x hx
        refine ⟨k1, ?_⟩
        simp only [hset] at k2
        split at k2
        · cases k2
        · exact k2
      · rw [hx]; exact ⟨hblt, hb⟩
  have hc1 : Cov w h (fun x => T x ∨ x = b) avs vals := ⟨hc.size, fun j hj hk => (hc.val j hj hk).change go⟩
  refine (s.2 _ w vals hr1 hc1).mono fun e w' ⟨v, h', r, he, hR, ev, hr', hV⟩ => ?_
  have hb' : h' b = none := by
    cases hh : h' b with
    | none => rfl
    | some xs =>
      rcases ev.dom b (by rw [hh]; simp) with g | g
      · exact absurd hb g
      · omega
  have ev' : Evo (hset h b cs) w (hset h' b cs) w' := by
    refine ⟨ev.os, ev.tape, ev.output, ev.size, fun i hi hn => ev.same i hi ?_, ev.shape, fun x hx => ?_⟩
    · by_cases hib : i = b
      · simp [hset, hib] at hn
      · simpa [hset, hib] using hn
    · by_cases hxb : x = b
      · exact .inl (by simp [hset, hxb])
      · simp only [hset, hxb, if_false] at hx ⊢
        exact ev.dom x hx
  have back : ∀ x, x < w'.heap.size → h' x = none → ¬ (T x ∨ x = b) → hset h' b cs x = none ∧ ¬ T x := by
    intro x _ hx hT
    have hxb : x ≠ b := fun he => hT (.inr he)
    exact ⟨by simp [hset, hxb, hx], fun hh => hT (.inl hh)⟩
  refine ⟨v, _, r, he, ⟨h', hR, hb', rfl⟩, ev', ⟨fun x xs hx => ?_, hr.heldMono ev'⟩, hV.change back⟩
  by_cases hxb : x = b
  · subst hxb
    simp only [hset, if_true, Option.some.injEq] at hx
    subst hx
    obtain ⟨c, e, g1, g2, g3, g4⟩ := hr.blk x cs hbs
    refine ⟨c, e, by rw [ev.same x hblt hb]; exact g1, g2, g3, fun j hj => ?_⟩
    obtain ⟨v, k1, k2⟩ := g4 j hj
    exact ⟨v, k1, k2.mono ev'⟩
  · simp only [hset, hxb, if_false] at hx
    obtain ⟨c, e, g1, g2, g3, g4⟩ := hr'.blk x xs hx
    refine ⟨c, e, g1, g2, g3, fun j hj => ?_⟩
    obtain ⟨v, k1, k2⟩ := g4 j hj
    exact ⟨v, k1, k2.change back⟩

end
end Go.AM
end

section
/- The logic AM: memory that nobody writes any more. No Go program in it. -/
set_option linter.unusedSimpArgs false
set_option linter.unusedVariables false
namespace Go.AM
open Go

/-- Of what a value tells when the live blocks go over from h to h'. -/
inductive Frz (h h' : Hp) : AV → AV → Prop
  | id (x : AV) : Frz h h' x x
  | sl (b off len sz : Nat) (cs fs : List AV) (hb : h b = some cs) (hb' : h' b = none) (hl : off + fs.length ≤ cs.length) (hn : len * sz = fs.length)
      (hf : ∀ (j : Nat) (hj : j < fs.length) (hk : off + j < cs.length), Frz h h' cs[off + j] fs[j]) : Frz h h' (.sl b off len sz) (.fs len fs)
  | sl0 (b off sz : Nat) : Frz h h' (.sl b off 0 sz) (.fs 0 [])
  | ref (b off : Nat) (cs fs : List AV) (hb : h b = some cs) (hb' : h' b = none) (hl : off + fs.length ≤ cs.length)
      (hf : ∀ (j : Nat) (hj : j < fs.length) (hk : off + j < cs.length), Frz h h' cs[off + j] fs[j]) : Frz h h' (.ref b off) (.fp fs)
  | agg (cs fs : List AV) (hl : cs.length = fs.length) (hf : ∀ (j : Nat) (hj : j < fs.length) (hk : j < cs.length), Frz h h' cs[j] fs[j]) : Frz h h' (.agg cs) (.agg fs)
  | tup (cs fs : List AV) (hl : cs.length = fs.length) (hf : ∀ (j : Nat) (hj : j < fs.length) (hk : j < cs.length), Frz h h' cs[j] fs[j]) : Frz h h' (.tup cs) (.tup fs)

/-- What is left of the live blocks. -/
def Sub (h h' : Hp) : Prop := ∀ b cs', h' b = some cs' → ∃ cs, h b = some cs ∧ cs.length = cs'.length ∧ ∀ (j : Nat) (h1 : j < cs.length) (h2 : j < cs'.length), Frz h h' cs[j] cs'[j]

def updL : List Nat → List AV → Fr → Fr
  | s :: S, v :: vs, fr => updL S vs (upd fr s v)
  | _, _, fr => fr

def FrzL (h h' : Hp) (fr : Fr) : List Nat → List AV → Prop
  | [], [] => True
  | s :: S, v :: vs => Frz h h' (fr s) v ∧ FrzL h h' fr S vs
  | _, _ => False

/-- Here live blocks may be let go. -/
def Fz (S : List Nat) (Q : Fr → Hp → Prop) (fr : Fr) (h : Hp) : Prop := ∃ h' vs, Sub h h' ∧ FrzL h h' fr S vs ∧ Q (updL S vs fr) h'

section
variable {P : Program} {T : Nat → Prop} {N : Nat} {fr : Fr} {h h' : Hp} {a : Act} {w : World}

theorem Frz.one {x y : AV} (f : Frz h h' x y) (hx : one x = true) : one y = true := by
  cases f <;> first | exact hx | rfl

theorem Sub.none (s : Sub h h') {b : Nat} (hb : h b = none) : h' b = none := by
  cases hh : h' b with
  | none => rfl
  | some cs =>
    obtain ⟨cs0, h0, _⟩ := s b cs hh
    rw [hb] at h0
    cases h0

theorem V.sub (s : Sub h h') {x : AV} {v : Value} (hv : V w h T x v) : V w h' T x v := hv.change fun b _ hb hT => ⟨s.none hb, hT⟩

theorem Frz.V (hr : HR w h T) (s : Sub h h') {x y : AV} (f : Frz h h' x y) : ∀ {v : Value}, V w h T x v → V w h' T y v := by
  have blk : ∀ (b off : Nat) (cs fs : List AV), h b = some cs → h' b = none → off + fs.length ≤ cs.length → (∀ (j : Nat) (hj : j < fs.length) (hk : off + j < cs.length), Frz h h' cs[off + j] fs[j]) →
      (∀ (j : Nat) (hj : j < fs.length) (hk : off + j < cs.length) {v : Value}, Go.AM.V w h T cs[off + j] v → Go.AM.V w h' T fs[j] v) →
      ∃ (c : Array Value) (e : TypeId) (vs : Nat → Value), w.heap[b]? = some (.cells c e (0, 0)) ∧ ¬ T b ∧ fs.all AM.one = true ∧ (∀ j, j < fs.length → c[off + j]? = some (vs j)) ∧ ∀ (j : Nat) (hj : j < fs.length), Go.AM.V w h' T fs[j] (vs j) := by
    intro b off cs fs hb hb' hl hf ih
    obtain ⟨c, e, g1, g2, g3, g4⟩ := hr.blk b cs hb
    refine ⟨c, e, fun j => c.getD (off + j) undef, g1, fun hT => ?_, ?_, fun j hj => ?_, fun j hj => ?_⟩
    · have := (hr.held b hT).2
      rw [hb] at this
      cases this
    · rw [List.all_eq_true]
      intro y hy
      obtain ⟨j, hj, rfl⟩ := List.mem_iff_getElem.1 hy
      exact (hf j hj (by omega)).one (List.all_eq_true.1 g3 _ (List.getElem_mem _))
    · obtain ⟨v, k1, k2⟩ := g4 (off + j) (by omega)
      simp only [Array.getD_eq_getD_getElem?, k1, Option.getD_some]
    · obtain ⟨v, k1, k2⟩ := g4 (off + j) (by omega)
      have := ih j hj (by omega) k2
      simp only [Array.getD_eq_getD_getElem?, k1, Option.getD_some]
      exact this
  induction f with
  | id x => exact fun hv => hv.sub s
  | sl b off len sz cs fs hb hb' hl hn hf ih =>
    intro v hv
    obtain ⟨c, e, vs, k1, k2, k3, k4, k5⟩ := blk b off cs fs hb hb' hl hf ih
    cases hv with
    | sl _ _ _ _ cap c' e' f hb2 hc2 hl2 => exact .fs len fs b off cap c e (0, 0) vs k1 hb' k2 k3 k4 k5 hl2
    | sl0 _ _ _ ad =>
      have : fs = [] := List.eq_nil_of_length_eq_zero (by omega)
      subst this
      exact .fs0 ad 0
  | sl0 b off sz =>
    intro v hv
    cases hv with
    | sl _ _ _ _ cap c' e' f hb2 hc2 hl2 => exact .fs0 _ _
    | sl0 _ _ _ ad => exact .fs0 ad 0
  | ref b off cs fs hb hb' hl hf ih =>
    intro v hv
    obtain ⟨c, e, vs, k1, k2, k3, k4, k5⟩ := blk b off cs fs hb hb' hl hf ih
    cases hv with
    | ref _ _ hb2 => exact .fp fs b off c e (0, 0) vs k1 hb' k2 k3 k4 k5
  | agg cs fs hl hf ih =>
    intro v hv
    cases hv with
    | agg _ vs hl2 hv2 => exact .agg fs vs (by omega) fun j hj hk => ih j hj (by omega) (hv2 j (by omega) hk)
  | tup cs fs hl hf ih =>
    intro v hv
    cases hv with
    | tup _ vs hl2 hv2 => exact .tup fs vs (by omega) fun j hj hk => ih j hj (by omega) (hv2 j (by omega) hk)

theorem HR.sub (hr : HR w h T) (s : Sub h h') : HR w h' T := by
  refine ⟨fun b cs' hb => ?_, fun b hb => ⟨(hr.held b hb).1, s.none (hr.held b hb).2⟩⟩
  obtain ⟨cs, h0, hl, hf⟩ := s b cs' hb
  obtain ⟨c, e, g1, g2, g3, g4⟩ := hr.blk b cs h0
  refine ⟨c, e, g1, by omega, ?_, fun j hj => ?_⟩
  · rw [List.all_eq_true]
    intro y hy
    obtain ⟨j, hj, rfl⟩ := List.mem_iff_getElem.1 hy
    exact (hf j (by omega) hj).one (List.all_eq_true.1 g3 _ (List.getElem_mem _))
  · obtain ⟨v, k1, k2⟩ := g4 j (by omega)
    exact ⟨v, k1, (hf j (by omega) hj).V hr s k2⟩

theorem Evo.sub {h0 : Hp} {w0 : World} (ev : Evo h0 w0 h w) (s : Sub h h') : Evo h0 w0 h' w := by
  refine ⟨ev.os, ev.tape, ev.output, ev.size, ev.same, ev.shape, fun b hb => ev.dom b fun hn => hb (s.none hn)⟩

theorem updL_V {slots : Nat → Value} (hr : HR w h T) (s : Sub h h') : ∀ (S : List Nat) (vs : List AV) (fr fr0 : Fr), (∀ t, t < N → V w h T (fr0 t) (slots t)) → (∀ t, t < N → V w h' T (fr t) (slots t)) → FrzL h h' fr0 S vs → ∀ t, t < N → V w h' T (updL S vs fr t) (slots t)
  | [], [], fr, fr0, _, h2, _ => h2
  | s0 :: S, v :: vs, fr, fr0, h1, h2, hf => by
    refine updL_V hr s S vs (upd fr s0 v) fr0 h1 (fun t ht => ?_) hf.2
    simp only [upd]
    by_cases hts : t = s0
    · rw [if_pos hts, hts]
      rw [hts] at ht
      exact hf.1.V hr s (h1 s0 ht)
    · rw [if_neg hts]
      exact h2 t ht
  | [], _ :: _, _, _, _, _, hf => hf.elim
  | _ :: _, [], _, _, _, _, hf => hf.elim

theorem Rel.fz {S : List Nat} {vs : List AV} (rel : Rel T N fr h a w) (s : Sub h h') (hf : FrzL h h' fr S vs) : Rel T N (updL S vs fr) h' a w :=
  ⟨updL_V (N := N) (slots := fun t => a.tmps.getD t undef) rel.heap s S vs fr fr rel.slots (fun t ht => (rel.slots t ht).sub s) hf, rel.size, rel.defers, rel.heap.sub s⟩

/-! ### How live blocks are let go -/

theorem Sub.refl (h : Hp) : Sub h h := fun b cs hb => ⟨cs, hb, rfl, fun j _ _ => .id _⟩

theorem Sub.of {h h' : Hp} (s : ∀ b cs, h' b = some cs → h b = some cs) : Sub h h' := fun b cs hb => ⟨cs, s b cs hb, rfl, fun j _ _ => .id _⟩

theorem Frz.slk {b len sz : Nat} {cs : List AV} (hb : h b = some cs) (hb' : h' b = none) (hn : len * sz = cs.length) : Frz h h' (.sl b 0 len sz) (.fs len cs) :=
  .sl b 0 len sz cs cs hb hb' (by omega) hn fun j hj hk => by simp only [Nat.zero_add]; exact .id _

theorem Frz.refk {b : Nat} {cs : List AV} (hb : h b = some cs) (hb' : h' b = none) : Frz h h' (.ref b 0) (.fp cs) :=
  .ref b 0 cs cs hb hb' (by omega) fun j hj hk => by simp only [Nat.zero_add]; exact .id _

theorem Fz.mono {S : List Nat} {Q Q' : Fr → Hp → Prop} (hq : ∀ fr h, Q fr h → Q' fr h) (f : Fz S Q fr h) : Fz S Q' fr h :=
  let ⟨h', vs, g1, g2, g3⟩ := f
  ⟨h', vs, g1, g2, hq _ _ g3⟩

theorem Fz.skip {S : List Nat} {Q : Fr → Hp → Prop} (q : Q fr h) : Fz S Q fr h := by
  refine ⟨h, S.map fr, Sub.refl h, ?_, ?_⟩
  · induction S with
    | nil => trivial
    | cons s S ih => exact ⟨.id _, ih⟩
  · have : ∀ (S : List Nat), updL S (S.map fr) fr = fr := by
      intro S
      induction S with
      | nil => rfl
      | cons s S ih =>
        have : upd fr s (fr s) = fr := by
          funext x
          simp only [upd]
          split
          · rename_i hx; rw [hx]
          · rfl
        simp only [List.map_cons, updL, this]
        exact ih
    rw [this]
    exact q

theorem updL_keep {S : List Nat} : ∀ (vs : List AV) (fr : Fr) (s : Nat), s ∉ S → updL S vs fr s = fr s := by
  induction S with
  | nil => intro vs fr s _; cases vs <;> rfl
  | cons x S ih =>
    intro vs fr s hs
    cases vs with
    | nil => rfl
    | cons v vs =>
      simp only [updL]
      rw [ih vs _ s (fun hm => hs (List.mem_cons_of_mem _ hm))]
      have : s ≠ x := fun he => hs (by rw [he]; exact List.mem_cons_self ..)
      simp [upd, this]

/-- A contract whose end lets blocks go. -/
theorem Spec.fz {f : FuncId} {avs : List AV} {R : AV → Hp → Prop} (s : Spec P f avs h (fun v h1 => ∃ h2 v2, Sub h1 h2 ∧ Frz h1 h2 v v2 ∧ R v2 h2)) : Spec P f avs h R := by
  refine ⟨s.1, fun T w vals hr hc => (s.2 T w vals hr hc).mono fun e w' ⟨v, h1, r, g1, ⟨h2, v2, g2, g3, g4⟩, g5, g6, g7⟩ => ?_⟩
  exact ⟨v2, h2, r, g1, g4, g5.sub g2, g6.sub g2, g3.V g6 g2 g7⟩

end
end Go.AM
end

section
/- The logic AM: which operations may change places, and that they may. No Go program in it. -/
set_option linter.unusedSimpArgs false
set_option linter.unusedVariables false
namespace Go.AM
open Go

def isLd : SO → Bool
  | .ld .. => true
  | _ => false

/-- It only adds to the live blocks, or leaves them alone. -/
def extB (o : GOp) : Bool := match cls o.o with
  | .det | .mem | .app => true
  | .call => o.md == 1 || o.md == 2
  | _ => false

def keptB (x y : GOp) : Bool := match x.o with
  | .ld (.t s) n _ => y.keep.contains (s, n)
  | _ => false

def swapOk (x y : GOp) : Bool :=
  (match x.d with
    | some d => !y.uses.contains d && (y.d != some d)
    | none => true) &&
  (match y.d with
    | some d => !x.uses.contains d
    | none => true) &&
  (match cls x.o with
    | .det => if isLd x.o then extB y || (cls y.o == .st && keptB x y) else true
    | .call => x.md == 1 && (cls y.o == .mem || cls y.o == .det || (cls y.o == .call && y.md == 1))
    | .mem => cls y.o == .mem
    | .app => cls y.o == .mem
    | _ => false)

section
variable {P : Program} {fr : Fr} {h : Hp}

theorem appW_mono {s x : AV} {sz : Nat} {K K' : AV → Hp → Prop} (hk : ∀ v h', K v h' → K' v h') (a : appW s x sz h K) : appW s x sz h K' := by
  unfold appW at *
  split at a
  · exact a.elim
  · split at a
    · obtain ⟨a1, a2, a3⟩ := a
      exact ⟨a1, fun h0 => hk _ _ (a2 h0), fun h0 b hb => hk _ _ (a3 h0 b hb)⟩
    · split at a
      · exact a.elim
      · obtain ⟨a1, a2, a3, a4, a5⟩ := a
        exact ⟨a1, a2, a3, a4, fun b hb => hk _ _ (a5 b hb)⟩
    · exact a.elim

theorem cpyW_mono {s x : AV} {K K' : AV → Hp → Prop} (hk : ∀ v h', K v h' → K' v h') (a : cpyW s x h K) : cpyW s x h K' := by
  unfold cpyW at *
  split at a
  · exact a.elim
  · split at a
    · split at a
      · exact a.elim
      · exact ⟨a.1, a.2.1, hk _ _ a.2.2⟩
    · exact a.elim

theorem stW_mono {x v : AV} {n : Nat} {K K' : Hp → Prop} (hk : ∀ h', K h' → K' h') (a : stW x v n h K) : stW x v n h K' := by
  unfold stW at *
  split
  · rename_i B off
    split
    · simp_all
    · rename_i cs hcs
      simp only [hcs] at a
      exact ⟨a.1, a.2.1, a.2.2.1, hk _ a.2.2.2⟩
  · simp_all

theorem callW_mono {md : Nat} {f : SX} {xs : List SX} {K K' : AV → Hp → Prop} (hk : ∀ v h', K v h' → K' v h') (a : callW P md fr f xs h K) : callW P md fr f xs h K' := by
  unfold callW at *
  split at a
  · exact a.elim
  · split at a
    · exact a.mono hk
    · obtain ⟨r, a1, a2⟩ := a
      exact ⟨r, a1, hk _ _ a2⟩
    · exact a.mono fun v h' hh => ⟨hh.1, hk _ _ hh.2⟩

theorem eff1_mono {o : GOp} {R R' : AV → Hp → Prop} (hk : ∀ v h', R v h' → R' v h') (a : eff1 P o fr h R) : eff1 P o fr h R' := by
  unfold eff1 at *
  split at a
  · exact appW_mono hk a
  · exact cpyW_mono hk a
  · exact stW_mono (fun h' hh => ⟨hh.1, hk _ _ hh.2⟩) a
  · exact callW_mono hk a
  · split at a
    · split at a
      · exact fun b hb => hk _ _ (a b hb)
      · exact a
    · split at a
      · exact hk _ _ a
      · exact a

theorem eff_mono {o : GOp} {R R' : AV → Hp → Prop} (hk : ∀ v h', R v h' → R' v h') (a : eff P o fr h R) : eff P o fr h R' := by
  unfold eff at *
  split at a
  · exact eff1_mono hk a
  · split at a
    · split at a
      · rename_i hbw
        rw [if_pos hbw]
        exact eff1_mono hk a
      · rename_i hbw
        rw [if_neg hbw]
        exact hk _ _ a
    · exact hk _ _ a
    · exact a

/-- Either it is passed over, or it is done. -/
theorem eff_cases {o : GOp} {R : AV → Hp → Prop} (a : eff P o fr h R) :
    (R (.tup []) h ∧ ∀ h' R', R' (.tup []) h' → eff P o fr h' R') ∨ (eff1 P o fr h R ∧ ∀ h' R', eff1 P o fr h' R' → eff P o fr h' R') := by
  cases hg : o.g with
  | none =>
    refine .inr ⟨?_, fun h' R' hh => ?_⟩
    · simpa only [eff, hg] using a
    · simpa only [eff, hg] using hh
  | some p =>
    obtain ⟨s, want⟩ := p
    unfold eff at a
    rw [hg] at a
    simp only at a
    split at a
    · rename_i b hb
      split at a
      · rename_i hbw
        refine .inr ⟨a, fun h' R' hh => ?_⟩
        unfold eff
        rw [hg]
        simp only [hb, hbw, if_true]
        exact hh
      · rename_i hbw
        refine .inl ⟨a, fun h' R' hh => ?_⟩
        unfold eff
        rw [hg]
        simp only [hb, hbw, if_false]
        exact hh
    · rename_i hb
      refine .inl ⟨a, fun h' R' hh => ?_⟩
      unfold eff
      rw [hg]
      simp only [hb]
      exact hh
    · exact a.elim

/-- An operation that leaves memory alone: its value. -/
theorem eff_det {o : GOp} (hc : cls o.o = .det) {R : AV → Hp → Prop} (a : eff P o fr h R) : ∃ v, R v h ∧ (∀ R', R' v h → eff P o fr h R') ∧ (isLd o.o = false → ∀ h' R', R' v h' → eff P o fr h' R') ∧
    (∀ h' R', Ext1 h h' → R' v h' → eff P o fr h' R') ∧ (∀ s n ag, o.o = .ld (.t s) n ag → ∀ h' R', cellsAt h' (fr s) n = cellsAt h (fr s) n → R' v h' → eff P o fr h' R') := by
  rcases eff_cases a with ⟨a1, a2⟩ | ⟨a1, a2⟩
  · exact ⟨_, a1, fun R' => a2 h R', fun _ => a2, fun h' R' _ => a2 h' R', fun _ _ _ _ h' R' _ => a2 h' R'⟩
  · have key : ∃ v, det o.o fr h = some v ∧ R v h := by
      unfold eff1 at a1
      split at a1 <;> first | (rename_i hh; rw [hh] at hc; cases hc; done) | skip
      split at a1
      · rename_i hh
        rw [hc] at hh
        cases hh
      · split at a1
        · exact ⟨_, by assumption, a1⟩
        · exact a1.elim
    obtain ⟨v, hv, hR⟩ := key
    have mk : ∀ h' R', det o.o fr h' = some v → R' v h' → eff P o fr h' R' := by
      intro h' R' hd hr
      refine a2 h' R' ?_
      unfold eff1
      split <;> first | (rename_i hh; rw [hh] at hc; cases hc; done) | skip
      rw [hc]
      simp only
      rw [hd]
      exact hr
    refine ⟨v, hR, fun R' => mk h R' hv, fun hl h' R' => mk h' R' ?_, fun h' R' he => mk h' R' ?_, fun s n ag ho h' R' hcell => mk h' R' ?_⟩
    · rw [← hv]
      cases ho : o.o <;> rw [ho] at hl <;> first | (cases hl; done) | rfl
    · rw [← hv]
      cases ho : o.o <;> try rfl
      rename_i x n ag
      rw [ho] at hv
      simp only [det] at hv ⊢
      obtain ⟨cs, hcs, _⟩ := Option.bind_eq_some_iff.1 hv
      rw [cellsAt_ext he hcs, hcs]
    · rw [ho] at hv ⊢
      simp only [det, ev] at hv ⊢
      rw [hcell]
      exact hv

theorem eff1_ext {o : GOp} (he : extB o = true) {R : AV → Hp → Prop} (a : eff1 P o fr h R) : eff1 P o fr h (fun v h' => R v h' ∧ Ext1 h h') := by
  unfold extB at he
  unfold eff1 at *
  split at a
  · rename_i s x sz hh
    unfold appW at *
    split at a
    · exact a.elim
    · split at a
      · obtain ⟨b1, b2, b3⟩ := a
        exact ⟨b1, fun h0 => ⟨b2 h0, Ext1.refl h⟩, fun h0 b hb => ⟨b3 h0 b hb, Ext1.hset _ hb⟩⟩
      · split at a
        · exact a.elim
        · rename_i cs hcs
          obtain ⟨b1, b2, b3, b4, b5⟩ := a
          refine ⟨b1, b2, b3, b4, fun b hb => ⟨b5 b hb, ?_⟩⟩
          rcases hb with rfl | hb
          · intro y ys hy
            by_cases hyb : y = b
            · subst hyb
              rw [hcs] at hy
              injection hy with hy
              subst hy
              exact ⟨_, by simp only [hset, if_true]; rfl⟩
            · exact ⟨[], by simp [hset, hyb, hy]⟩
          · exact Ext1.hset _ hb
      · exact a.elim
  · rename_i hh
    rw [hh] at he
    cases he
  · rename_i hh
    rw [hh] at he
    cases he
  · rename_i f xs hh
    rw [hh] at he
    simp only [cls, Bool.or_eq_true, beq_iff_eq] at he
    unfold callW at *
    split at a
    · exact a.elim
    · rcases he with he | he
      · rw [he] at a ⊢
        simp only at a ⊢
        obtain ⟨r, a1, a2⟩ := a
        exact ⟨r, a1, a2, Ext1.refl h⟩
      · rw [he] at a ⊢
        simp only at a ⊢
        exact a.mono fun v h' hh => ⟨hh.1, hh.2, hh.1.ext1⟩
  · split at a
    · split at a
      · exact fun b hb => ⟨a b hb, Ext1.hset _ hb⟩
      · exact a
    · split at a
      · exact ⟨a, Ext1.refl h⟩
      · exact a

theorem eff_ext {o : GOp} (he : extB o = true) {R : AV → Hp → Prop} (a : eff P o fr h R) : eff P o fr h (fun v h' => R v h' ∧ Ext1 h h') := by
  rcases eff_cases a with ⟨a1, a2⟩ | ⟨a1, a2⟩
  · exact a2 h _ ⟨a1, Ext1.refl h⟩
  · exact a2 h _ (eff1_ext he a1)

/-- An operation that makes memory. -/
theorem eff_mem {o : GOp} (hc : cls o.o = .mem) {R : AV → Hp → Prop} (a : eff P o fr h R) :
    (R (.tup []) h ∧ ∀ h' R', R' (.tup []) h' → eff P o fr h' R') ∨ ∃ (cs : List AV) (mk : Nat → AV), (∀ b, h b = none → R (mk b) (hset h b cs)) ∧ ∀ h' R', (∀ b, h' b = none → R' (mk b) (hset h' b cs)) → eff P o fr h' R' := by
  rcases eff_cases a with ha | ⟨a1, a2⟩
  · exact .inl ha
  · right
    have key : ∃ cs mk, mem o.o fr = some (cs, mk) ∧ ∀ b, h b = none → R (mk b) (hset h b cs) := by
      unfold eff1 at a1
      split at a1 <;> first | (rename_i hh; rw [hh] at hc; cases hc; done) | skip
      rw [hc] at a1
      simp only at a1
      split at a1
      · exact ⟨_, _, by assumption, a1⟩
      · exact a1.elim
    obtain ⟨cs, mk, hm, hR⟩ := key
    refine ⟨cs, mk, hR, fun h' R' hr => a2 h' R' ?_⟩
    unfold eff1
    split <;> first | (rename_i hh; rw [hh] at hc; cases hc; done) | skip
    rw [hc]
    simp only [hm]
    exact hr

theorem eff_mem_iff {o : GOp} (hc : cls o.o = .mem) : (∀ h R, eff P o fr h R ↔ R (.tup []) h) ∨ (∃ (cs : List AV) (mk : Nat → AV), ∀ h R, eff P o fr h R ↔ ∀ b, h b = none → R (mk b) (hset h b cs)) ∨ (∀ h R, ¬ eff P o fr h R) := by
  have e1 : (∃ (cs : List AV) (mk : Nat → AV), ∀ h R, eff1 P o fr h R ↔ ∀ b, h b = none → R (mk b) (hset h b cs)) ∨ (∀ h R, ¬ eff1 P o fr h R) := by
    have form : ∀ h R, eff1 P o fr h R = (match mem o.o fr with
        | some (cs, mk) => ∀ b, h b = none → R (mk b) (hset h b cs)
        | none => False) := by
      intro h R
      unfold eff1
      split <;> first | (rename_i hh; rw [hh] at hc; cases hc; done) | skip
      rw [hc] <;> rfl
    cases hm : mem o.o fr with
    | none => exact .inr fun h R a => by rw [form, hm] at a; exact a
    | some p => exact .inl ⟨p.1, p.2, fun h R => by rw [form, hm]⟩
  have lift : (∀ h R, eff P o fr h R ↔ R (.tup []) h) ∨ (∀ h R, eff P o fr h R ↔ eff1 P o fr h R) ∨ (∀ h R, ¬ eff P o fr h R) := by
    cases hg : o.g with
    | none => exact .inr (.inl fun h R => by unfold eff; rw [hg])
    | some p =>
      obtain ⟨s, want⟩ := p
      have form : ∀ h R, eff P o fr h R = (match fr s with
        | .base (.bool b) => if b = want then eff1 P o fr h R else R (.tup []) h
        | .tup [] => R (.tup []) h
        | _ => False) := by
        intro h R
        unfold eff
        rw [hg] <;> rfl
      by_cases h1 : ∃ b, fr s = .base (.bool b)
      · obtain ⟨b, hb⟩ := h1
        by_cases hbw : b = want
        · exact .inr (.inl fun h R => by rw [form, hb]; simp only [hbw, if_true])
        · exact .inl fun h R => by rw [form, hb]; simp only [hbw, if_false]
      · by_cases h2 : fr s = .tup []
        · exact .inl fun h R => by rw [form, h2]
        · refine .inr (.inr fun h R a => ?_)
          rw [form] at a
          split at a
          · rename_i b hb
            exact h1 ⟨b, hb⟩
          · rename_i hb
            exact h2 hb
          · exact a
  rcases lift with l | l | l
  · exact .inl l
  · rcases e1 with ⟨cs, mk, e⟩ | e
    · exact .inr (.inl ⟨cs, mk, fun h R => (l h R).trans (e h R)⟩)
    · exact .inr (.inr fun h R a => e h R ((l h R).1 a))
  · exact .inr (.inr l)

/-- There are always fresh blocks. -/
def Fin (h : Hp) : Prop := ∃ n, ∀ b, n ≤ b → h b = none

theorem Fin.fresh {h : Hp} (f : Fin h) : ∃ b, h b = none := let ⟨n, hn⟩ := f; ⟨n, hn n (Nat.le_refl n)⟩

theorem Fin.hset {h : Hp} (f : Fin h) (b : Nat) (cs : List AV) : Fin (hset h b cs) := by
  obtain ⟨n, hn⟩ := f
  refine ⟨max n (b + 1), fun x hx => ?_⟩
  have h1 : n ≤ x := Nat.le_trans (Nat.le_max_left _ _) hx
  have h2 : b + 1 ≤ x := Nat.le_trans (Nat.le_max_right _ _) hx
  simp [AM.hset, show x ≠ b by omega, hn x h1]

theorem HR.fin {w : World} {T : Nat → Prop} (hr : HR w h T) : Fin h := by
  refine ⟨w.heap.size, fun b hb => ?_⟩
  cases hh : h b with
  | none => rfl
  | some cs => exact absurd (hr.lt hh) (by omega)

theorem Spec.fin {f : FuncId} {avs : List AV} {R : AV → Hp → Prop} (s : Spec P f avs h R) : Spec P f avs h (fun v h' => R v h' ∧ Fin h') :=
  ⟨s.1, fun T w vals hr hc => (s.2 T w vals hr hc).mono fun e w' ⟨v, h', r, g1, g2, g3, g4, g5⟩ => ⟨v, h', r, g1, ⟨g2, g4.fin⟩, g3, g4, g5⟩⟩

theorem eff_fin {o : GOp} (f : Fin h) {R : AV → Hp → Prop} (a : eff P o fr h R) : eff P o fr h (fun v h' => R v h' ∧ Fin h') := by
  rcases eff_cases a with ⟨a1, a2⟩ | ⟨a1, a2⟩
  · exact a2 h _ ⟨a1, f⟩
  · refine a2 h _ ?_
    unfold eff1 at *
    split at a1
    · unfold appW at *
      split at a1
      · exact a1.elim
      · split at a1
        · obtain ⟨b1, b2, b3⟩ := a1
          exact ⟨b1, fun h0 => ⟨b2 h0, f⟩, fun h0 b hb => ⟨b3 h0 b hb, f.hset _ _⟩⟩
        · split at a1
          · exact a1.elim
          · obtain ⟨b1, b2, b3, b4, b5⟩ := a1
            exact ⟨b1, b2, b3, b4, fun b hb => ⟨b5 b hb, f.hset _ _⟩⟩
        · exact a1.elim
    · unfold cpyW at *
      split at a1
      · exact a1.elim
      · split at a1
        · split at a1
          · exact a1.elim
          · exact ⟨a1.1, a1.2.1, a1.2.2, f.hset _ _⟩
        · exact a1.elim
    · unfold stW at *
      split at a1
      · split at a1
        · exact a1.elim
        · exact ⟨a1.1, a1.2.1, a1.2.2.1, a1.2.2.2.1, a1.2.2.2.2, f.hset _ _⟩
      · exact a1.elim
    · unfold callW at *
      split at a1
      · exact a1.elim
      · split at a1
        · exact a1.fin
        · obtain ⟨r, b1, b2⟩ := a1
          exact ⟨r, b1, b2, f⟩
        · exact a1.fin.mono fun v h' hh => ⟨hh.1.1, hh.1.2, hh.2⟩
    · split at a1
      · split at a1
        · exact fun b hb => ⟨a1 b hb, f.hset _ _⟩
        · exact a1
      · split at a1
        · exact ⟨a1, f⟩
        · exact a1

theorem eff_call1 {o : GOp} (hc : cls o.o = .call) (hm : o.md = 1) {R : AV → Hp → Prop} (a : eff P o fr h R) : ∃ r, R r h ∧ (∀ R', R' r h → eff P o fr h R') ∧ (∀ b cs, h b = none → ∀ R', R' r (hset h b cs) → eff P o fr (hset h b cs) R') := by
  rcases eff_cases a with ⟨a1, a2⟩ | ⟨a1, a2⟩
  · exact ⟨_, a1, fun R' => a2 h R', fun b cs _ R' => a2 _ R'⟩
  · cases ho : o.o <;> rw [ho] at hc <;> try cases hc
    rename_i f xs
    have e1 : ∀ h' R', callW P 1 fr f xs h' R' → eff1 P o fr h' R' := by
      intro h' R' hh
      unfold eff1
      rw [ho]
      simp only [hm]
      exact hh
    have a1' : callW P 1 fr f xs h R := by
      unfold eff1 at a1
      rw [ho] at a1
      simp only [hm] at a1
      exact a1
    unfold callW at a1'
    split at a1'
    · exact a1'.elim
    · rename_i i avs hcal
      simp only at a1'
      obtain ⟨r, s, hR⟩ := a1'
      refine ⟨r, hR, fun R' hr => a2 h R' (e1 h R' ?_), fun b cs hb R' hr => a2 _ R' (e1 _ R' ?_)⟩
      · unfold callW
        rw [hcal]
        exact ⟨r, s, hr⟩
      · unfold callW
        rw [hcal]
        refine ⟨r, (s.frame hb cs).mono fun v h'' hh => ?_, hr⟩
        obtain ⟨h', ⟨k1, k2⟩, k3, k4⟩ := hh
        exact ⟨k1, by rw [k4, k2]⟩

/-- The two may change places. -/
theorem eff_swap {x y : GOp} (hs : swapOk x y = true) (fin : Fin h) {R : AV → AV → Hp → Prop} (a : eff P x fr h (fun v h' => eff P y fr h' (fun u h'' => R v u h''))) : eff P y fr h (fun u h' => eff P x fr h' (fun v h'' => R v u h'')) := by
  unfold swapOk at hs
  simp only [Bool.and_eq_true] at hs
  have hs := hs.2
  split at hs
  · -- x leaves memory alone
    rename_i hx
    obtain ⟨v, a1, _, a3, a4, a5⟩ := eff_det hx a
    split at hs
    · rename_i hl
      simp only [Bool.or_eq_true, Bool.and_eq_true, beq_iff_eq] at hs
      rcases hs with hs | ⟨hst, hk⟩
      · exact eff_mono (fun u h' hh => a4 h' _ hh.2 hh.1) (eff_ext hs a1)
      · -- a read behind a store
        have strong : eff P y fr h (fun u h' => R v u h' ∧ (h' = h ∨ keeps fr h h' y.keep)) := by
          rcases eff_cases a1 with ⟨b1, b2⟩ | ⟨b1, b2⟩
          · exact b2 h _ ⟨b1, .inl rfl⟩
          · refine b2 h _ ?_
            cases hy : y.o <;> rw [hy] at hst <;> try cases hst
            unfold eff1 at *
            rw [hy] at b1 ⊢
            exact stW_mono (fun h' hh => ⟨hh.1, hh.2, .inr hh.1⟩) b1
        refine eff_mono (fun u h' hh => ?_) strong
        rcases hh with ⟨hR, rfl | hkeep⟩
        · exact a4 _ _ (Ext1.refl _) hR
        · -- the same value is read
          unfold keptB at hk
          split at hk
          · rename_i s n ag ho
            have hmem : ∀ (l : List (Nat × Nat)), keeps fr h h' l → l.contains (s, n) = true → cellsAt h' (fr s) n = cellsAt h (fr s) n := by
              intro l
              induction l with
              | nil => intro _ hc; cases hc
              | cons p r ih =>
                intro hkk hc
                obtain ⟨s', n'⟩ := p
                simp only [List.contains_cons, Bool.or_eq_true, beq_iff_eq, Prod.mk.injEq] at hc
                rcases hc with ⟨rfl, rfl⟩ | hc
                · exact hkk.1
                · exact ih hkk.2 hc
            exact a5 s n ag ho h' _ (hmem _ hkeep hk) hR
          · cases hk
    · rename_i hl
      exact eff_mono (fun u h' hh => a3 (by simpa using hl) h' _ hh) a1
  · -- x is a call that leaves the live blocks alone
    rename_i hx
    simp only [Bool.and_eq_true, Bool.or_eq_true, beq_iff_eq] at hs
    obtain ⟨hm, hy⟩ := hs
    obtain ⟨r, a1, a2, a3⟩ := eff_call1 hx hm a
    rcases hy with (hy | hy) | ⟨hy, hym⟩
    · rcases eff_mem hy a1 with ⟨b1, b2⟩ | ⟨cs, mk, b1, b2⟩
      · exact b2 h _ (a2 _ b1)
      · exact b2 h _ fun b hb => a3 b cs hb _ (b1 b hb)
    · obtain ⟨u, b1, b2, _, _, _⟩ := eff_det hy a1
      exact b2 _ (a2 _ b1)
    · obtain ⟨u, b1, b2, _⟩ := eff_call1 hy hym a1
      exact b2 _ (a2 _ b1)
  · rename_i hx
    simp only [beq_iff_eq] at hs
    rcases eff_mem_iff (P := P) (fr := fr) hx with e | ⟨cs, mk, e⟩ | e
    · rw [e] at a
      exact eff_mono (fun u h' hh => (e _ _).2 hh) a
    · rw [e] at a
      rcases eff_mem_iff (P := P) (fr := fr) hs with e' | ⟨cs', mk', e'⟩ | e'
      · rw [e', e]
        exact fun b hb => (e' _ _).1 (a b hb)
      · rw [e']
        intro b' hb'
        rw [e]
        intro b hb
        have hne : b ≠ b' := fun he => by subst he; simp [hset] at hb
        have hb0 : h b = none := by simpa [hset, hne] using hb
        have := (e' _ _).1 (a b hb0) b' (by simp [hset, Ne.symm hne, hb'])
        rw [hset_comm (Ne.symm hne)]
        exact this
      · obtain ⟨b, hb⟩ := fin.fresh
        exact absurd (a b hb) (e' _ _)
    · exact absurd a (e _ _)
  · rename_i hx
    simp only [beq_iff_eq] at hs
    rcases eff_mem_iff (P := P) (fr := fr) hs with e | ⟨cs, mk, e⟩ | e
    · rw [e]
      exact eff_mono (fun v h' hh => (e _ _).1 hh) a
    · rw [e]
      intro b hb
      have a' : eff P x fr h (fun v h' => ∀ b, h' b = none → R v (mk b) (hset h' b cs)) := eff_mono (fun v h' hh => (e _ _).1 hh) a
      rcases eff_cases a' with ⟨a1, a2⟩ | ⟨a1, a2⟩
      · exact a2 _ _ (a1 b hb)
      · refine a2 _ _ ?_
        cases ho : x.o <;> rw [ho] at hx <;> try cases hx
        rename_i s y sz
        unfold eff1 at *
        rw [ho] at a1 ⊢
        simp only at a1 ⊢
        unfold appW at *
        split at a1
        · exact a1.elim
        · rename_i m xs hr
          rw [readS_ext (Ext1.hset cs hb) hr]
          simp only
          split at a1
          · rename_i hsn
            obtain ⟨b1, b2, b3⟩ := a1
            refine ⟨b1, fun h0 => b2 h0 b hb, fun h0 b' hb' => ?_⟩
            have hne : b' ≠ b := fun he => by subst he; simp [hset] at hb'
            have hb0 : h b' = none := by simpa [hset, hne] using hb'
            have := b3 h0 b' hb0 b (by simp [hset, Ne.symm hne, hb])
            rw [hset_comm (Ne.symm hne)]
            exact this
          · rename_i B off len sz' hsn
            split at a1
            · exact a1.elim
            · rename_i cs0 hcs0
              obtain ⟨b1, b2, b3, b4, b5⟩ := a1
              have hBb : B ≠ b := fun he => by rw [he, hb] at hcs0; cases hcs0
              have hcs1 : hset h b cs B = some cs0 := by simp [hset, hBb, hcs0]
              rw [hcs1]
              refine ⟨b1, b2, b3, b4, fun b' hb' => ?_⟩
              have hne : b' ≠ b := by
                rcases hb' with rfl | hb'
                · exact hBb
                · intro he
                  subst he
                  simp [hset] at hb'
              have hb0 : b' = B ∨ h b' = none := by
                rcases hb' with hb' | hb'
                · exact .inl hb'
                · exact .inr (by simpa [hset, hne] using hb')
              have := b5 b' hb0 b (by simp [hset, Ne.symm hne, hb])
              rw [hset_comm (Ne.symm hne)]
              exact this
          · exact a1.elim
    · exfalso
      have a' : eff P x fr h (fun _ _ => False) := eff_mono (fun v h' hh => e _ _ hh) a
      rcases eff_cases a' with ⟨a1, _⟩ | ⟨a1, _⟩
      · exact a1
      · cases ho : x.o <;> rw [ho] at hx <;> try cases hx
        unfold eff1 at a1
        rw [ho] at a1
        simp only at a1
        unfold appW at a1
        split at a1
        · exact a1
        · split at a1
          · obtain ⟨b1, b2, b3⟩ := a1
            obtain ⟨b, hb⟩ := fin.fresh
            refine b3 ?_ b hb
            exact b2
          · split at a1
            · exact a1
            · exact a1.2.2.2.2 _ (.inl rfl)
          · exact a1
  · cases hs

end
end Go.AM
end

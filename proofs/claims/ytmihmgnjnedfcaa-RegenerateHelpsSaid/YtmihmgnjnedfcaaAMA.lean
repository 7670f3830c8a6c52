/- The logic AM: abstract values and heaps, and how they relate to the machine's values and worlds. No Go program in it. -/
import Derived.Calls
import Derived.Orders
import Derived.Below
import Derived.WalkKit
namespace Go.AM
open Go

/-- Abstract values. 'fs', 'fp': a slice, a pointer to memory that nobody writes any more. 'sl', 'ref': into a live block. -/
inductive AV where
  | base (v : Value)
  | nilp
  | nils
  | ref (b off : Nat)
  | sl (b off len sz : Nat)
  | fp (cells : List AV)
  | fs (n : Nat) (cells : List AV)
  | agg (cells : List AV)
  | tup (vs : List AV)
  | fn (f : FuncId) (first cap : List AV)
  deriving Inhabited

abbrev Hp := Nat → Option (List AV)
abbrev Fr := Nat → AV

def hset (h : Hp) (b : Nat) (cs : List AV) : Hp := fun x => if x = b then some cs else h x
def hdel (h : Hp) (b : Nat) : Hp := fun x => if x = b then none else h x
def hun (h g : Hp) : Hp := fun x => match h x with | some cs => some cs | none => g x
def hemp : Hp := fun _ => none
def upd (fr : Fr) (d : Nat) (v : AV) : Fr := fun x => if x = d then v else fr x

def AV.cells : AV → List AV
  | .agg cs => cs
  | v => [v]

/-- A value of one cell that leads nowhere. -/
def flat : Value → Bool
  | .bool _ | .int _ _ | .string _ | .nilFunc | .nilIface => true
  | _ => false

/-- An abstract value of one cell. -/
def one : AV → Bool
  | .agg _ | .tup _ => false
  | _ => true

/-- What an abstract value says of a value, in a world, beside the live blocks 'h' and the blocks 'T' that others hold. -/
inductive V (w : World) (h : Hp) (T : Nat → Prop) : AV → Value → Prop
  | base (v : Value) (hv : flat v = true) : V w h T (.base v) v
  | nilp : V w h T .nilp (.pointer none)
  | nils : V w h T .nils (.slice none 0 0)
  | ref (b off : Nat) (hb : b < w.heap.size) : V w h T (.ref b off) (.pointer (some ⟨b, off, none⟩))
  | sl (b off len sz cap : Nat) (c : Array Value) (e : TypeId) (f : Nat × Nat) (hb : w.heap[b]? = some (.cells c e f)) (hc : off + cap * sz ≤ c.size) (hl : len ≤ cap) :
      V w h T (.sl b off len sz) (.slice (some ⟨b, off, none⟩) len cap)
  | sl0 (b off sz : Nat) (a : Addr) : V w h T (.sl b off 0 sz) (.slice (some a) 0 0)
  | fp (cells : List AV) (b off : Nat) (c : Array Value) (e : TypeId) (f : Nat × Nat) (vs : Nat → Value) (hb : w.heap[b]? = some (.cells c e f)) (hh : h b = none) (hT : ¬ T b) (h1 : cells.all one = true)
      (hc : ∀ j, j < cells.length → c[off + j]? = some (vs j)) (hv : ∀ (j : Nat) (hj : j < cells.length), V w h T cells[j] (vs j)) :
      V w h T (.fp cells) (.pointer (some ⟨b, off, none⟩))
  | fs (n : Nat) (cells : List AV) (b off cap : Nat) (c : Array Value) (e : TypeId) (f : Nat × Nat) (vs : Nat → Value) (hb : w.heap[b]? = some (.cells c e f)) (hh : h b = none) (hT : ¬ T b) (h1 : cells.all one = true)
      (hc : ∀ j, j < cells.length → c[off + j]? = some (vs j)) (hv : ∀ (j : Nat) (hj : j < cells.length), V w h T cells[j] (vs j)) (hn : n ≤ cap) :
      V w h T (.fs n cells) (.slice (some ⟨b, off, none⟩) n cap)
  | fs0 (a : Addr) (cap : Nat) : V w h T (.fs 0 []) (.slice (some a) 0 cap)
  | agg (cells : List AV) (vs : Array Value) (hl : vs.size = cells.length) (hv : ∀ (j : Nat) (hj : j < cells.length) (hk : j < vs.size), V w h T cells[j] vs[j]) :
      V w h T (.agg cells) (.agg vs)
  | tup (cells : List AV) (vs : Array Value) (hl : vs.size = cells.length) (hv : ∀ (j : Nat) (hj : j < cells.length) (hk : j < vs.size), V w h T cells[j] vs[j]) :
      V w h T (.tup cells) (.tuple vs)
  | fn (f : FuncId) (first cap : List AV) (vs us : Array Value) (hl : vs.size = first.length) (hv : ∀ (j : Nat) (hj : j < first.length) (hk : j < vs.size), V w h T first[j] vs[j])
      (hl2 : us.size = cap.length) (hv2 : ∀ (j : Nat) (hj : j < cap.length) (hk : j < us.size), V w h T cap[j] us[j]) :
      V w h T (.fn f first cap) (.func (.func f) vs us)

/-- The live blocks are in the world. -/
structure HR (w : World) (h : Hp) (T : Nat → Prop) : Prop where
  blk : ∀ (b : Nat) (cs : List AV), h b = some cs → ∃ (c : Array Value) (e : TypeId), w.heap[b]? = some (.cells c e (0, 0)) ∧ cs.length ≤ c.size ∧ cs.all one = true ∧
    ∀ (j : Nat) (hj : j < cs.length), ∃ v, c[j]? = some v ∧ V w h T cs[j] v
  held : ∀ b, T b → b < w.heap.size ∧ h b = none

/-- How a world and its live blocks may move on. -/
structure Evo (h : Hp) (w : World) (h' : Hp) (w' : World) : Prop where
  os : w'.os = w.os
  tape : w'.tape = w.tape
  output : w'.output = w.output
  size : w.heap.size ≤ w'.heap.size
  same : ∀ i, i < w.heap.size → h i = none → w'.heap[i]? = w.heap[i]?
  shape : ∀ (i : Nat) (c : Array Value) (e : TypeId) (f : Nat × Nat), w.heap[i]? = some (.cells c e f) → ∃ c' : Array Value, w'.heap[i]? = some (.cells c' e f) ∧ c'.size = c.size
  dom : ∀ b, h' b ≠ none → h b ≠ none ∨ w.heap.size ≤ b

theorem Evo.refl (h : Hp) (w : World) : Evo h w h w := ⟨rfl, rfl, rfl, Nat.le_refl _, fun _ _ _ => rfl, fun _ c _ _ hb => ⟨c, hb, rfl⟩, fun _ hb => .inl hb⟩

theorem Evo.trans {h0 h1 h2 : Hp} {w0 w1 w2 : World} (a : Evo h0 w0 h1 w1) (b : Evo h1 w1 h2 w2) : Evo h0 w0 h2 w2 := by
  refine ⟨b.os.trans a.os, b.tape.trans a.tape, b.output.trans a.output, Nat.le_trans a.size b.size, fun i hi hn => ?_, fun i c e f hb => ?_, fun x hx => ?_⟩
  · have h1n : h1 i = none := by
      cases hh : h1 i with
      | none => rfl
      | some cs => rcases a.dom i (by rw [hh]; simp) with h | h
                   · exact absurd hn h
                   · omega
    rw [b.same i (Nat.lt_of_lt_of_le hi a.size) h1n, a.same i hi hn]
  · obtain ⟨c1, h1c, hs1⟩ := a.shape i c e f hb
    obtain ⟨c2, h2c, hs2⟩ := b.shape i c1 e f h1c
    exact ⟨c2, h2c, hs2.trans hs1⟩
  · rcases b.dom x hx with h | h
    · exact a.dom x h
    · exact .inr (Nat.le_trans a.size h)

/-- What is said of a value stays true. -/
theorem V.mono {w w' : World} {h h' : Hp} {T : Nat → Prop} (ev : Evo h w h' w') {x : AV} {v : Value} (hv : V w h T x v) : V w' h' T x v := by
  have keep : ∀ b c e f, w.heap[b]? = some (.cells c e f) → h b = none → w'.heap[b]? = some (.cells c e f) ∧ h' b = none := by
    intro b c e f hb hh
    have hlt : b < w.heap.size := (Array.getElem?_eq_some_iff.1 hb).1
    refine ⟨(ev.same b hlt hh).trans hb, ?_⟩
    cases hh' : h' b with
    | none => rfl
    | some cs => rcases ev.dom b (by rw [hh']; simp) with g | g
                 · exact absurd hh g
                 · omega
  induction hv with
  | base v hv => exact .base v hv
  | nilp => exact .nilp
  | nils => exact .nils
  | ref b off hb => exact .ref b off (Nat.lt_of_lt_of_le hb ev.size)
  | sl b off len sz cap c e f hb hc hl =>
    obtain ⟨c', hb', hs⟩ := ev.shape b c e f hb
    exact .sl b off len sz cap c' e f hb' (by rw [hs]; exact hc) hl
  | sl0 b off sz a => exact .sl0 b off sz a
  | fp cells b off c e f vs hb hh hT h1 hc _ ih =>
    obtain ⟨hb', hh'⟩ := keep b c e f hb hh
    exact .fp cells b off c e f vs hb' hh' hT h1 hc ih
  | fs n cells b off cap c e f vs hb hh hT h1 hc _ hn ih =>
    obtain ⟨hb', hh'⟩ := keep b c e f hb hh
    exact .fs n cells b off cap c e f vs hb' hh' hT h1 hc ih hn
  | fs0 a cap => exact .fs0 a cap
  | agg cells vs hl _ ih => exact .agg cells vs hl ih
  | tup cells vs hl _ ih => exact .tup cells vs hl ih
  | fn f first cap vs us hl _ hl2 _ ih1 ih2 => exact .fn f first cap vs us hl ih1 hl2 ih2

theorem HR.heldMono {w w' : World} {h h' : Hp} {T : Nat → Prop} (hr : HR w h T) (ev : Evo h w h' w') : ∀ b, T b → b < w'.heap.size ∧ h' b = none := fun b hb => by
  obtain ⟨h1, h2⟩ := hr.held b hb
  refine ⟨Nat.lt_of_lt_of_le h1 ev.size, ?_⟩
  cases hh : h' b with
  | none => rfl
  | some cs => rcases ev.dom b (by rw [hh]; simp) with g | g
               · exact absurd h2 g
               · omega

/-- The frame: the abstract one tells of each slot. -/
structure Rel (T : Nat → Prop) (N : Nat) (fr : Fr) (h : Hp) (a : Act) (w : World) : Prop where
  slots : ∀ t, t < N → V w h T (fr t) (a.tmps.getD t undef)
  size : a.tmps.size = N
  defers : a.defers = []
  heap : HR w h T

end Go.AM

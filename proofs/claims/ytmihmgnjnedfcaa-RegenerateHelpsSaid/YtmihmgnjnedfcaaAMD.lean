/- The logic AM: which abstract operation stands for an operation of the machine; filling; splicing. No Go program in it. -/
import Derived.Test.YtmihmgnjnedfcaaAMC
import Derived.Laws.Tables
import Derived.Laws.Slices
import Derived.Laws.StructEq
namespace Go.AM
open Go

def optX (N : Nat) : Option Operand → Option (Option SX)
  | none => some none
  | some x => (avx N x).map some

def zeroT (P : Program) (t : TypeId) : Option (List AV) :=
  match P.info? t with
  | some i => match i.zero with
    | some z => z.cells.toList.mapM avc
    | none => none
  | none => none

def fieldT (P : Program) (t : TypeId) (f : Nat) : Option Field :=
  match P.underlying t with
  | some (.struct fs) => fs[f]?
  | _ => none

def elemT (P : Program) (t : TypeId) : Option TypeId :=
  match P.underlying t with
  | some (.slice e) => some e
  | _ => none

/-- A struct whose fields are whole numbers: how many. -/
def eqsFields (P : Program) : Nat → List Field → Bool
  | _, [] => true
  | k, f :: fs => f.name != "_" && f.offset == k && (match P.underlying f.type with
    | some (.int _) => true
    | _ => false) && eqsFields P (k + 1) fs

def eqsT (P : Program) (t : TypeId) : Option Nat :=
  match P.underlying t with
  | some (.struct fs) => if P.stoodInHeld t = false ∧ P.eqGuardType P.depth t = false ∧ eqsFields P 0 fs.toList = true then some fs.size else none
  | _ => none

def placesT (P : Program) (t : TypeId) : Option (List (Nat × Nat)) :=
  match P.underlying t with
  | some (.struct fs) => fs.toList.mapM (fun f => (P.info? f.type).map fun i => (f.offset, i.size))
  | _ => none

def intStruct (P : Program) (t : TypeId) : Option Nat :=
  match P.underlying t with
  | some (.struct fs) => if fs.toList.all (fun f => (match P.underlying f.type with | some (.int _) => true | _ => false) && (sizeT P f.type == some 1) && f.name != "_") &&
      (fs.toList.map (·.offset) == List.range fs.size) && !P.stoodInHeld t then some fs.size else none
  | _ => none

/-- The abstract operation. -/
def cop (P : Program) (N : Nat) (o : Oper) : Option SO :=
  match o.op with
  | .move x => (avx N x).map .mv
  | .assign x => (avx N x).map .mv
  | .pick c a b => match avx N c, avx N a, avx N b with
    | some c, some a, some b => some (.pick c a b)
    | _, _, _ => none
  | .load t x => match avx N x, aggOf P t, sizeT P t with
    | some x, some ag, some n => some (.ld x (if ag then n else 1) ag)
    | _, _, _ => none
  | .nilCheck x => (avx N x).map .nc
  | .binOp op t x y _ => match avx N x, avx N y, P.underlying t with
    | some x, some y, some (.int _) => some (.bin op x y)
    | some x, some (.k .nils), some (.slice _) => match op with
      | .eql => some (.isnil false x)
      | .neq => some (.isnil true x)
      | _ => none
    | some x, some y, some (.struct _) => match op, eqsT P t with
      | .eql, some n => some (.eqs false n x y)
      | .neq, some n => some (.eqs true n x y)
      | _, _ => none
    | _, _, _ => none
  | .unOp .not _ x => (avx N x).map .not
  | .unOp .neg _ x => (avx N x).map .neg
  | .convert s d x => match P.underlying s, P.underlying d, avx N x with
    | some (.int _), some (.int k), some x => some (.cvt k x)
    | _, _, _ => none
  | .slice t x lo hi mx => match (elemT P t).bind (sizeT P), avx N x, optX N lo, optX N hi, optX N mx with
    | some sz, some x, some lo, some hi, some mx => if mx.isSome && hi.isNone then none else some (.slc x lo hi mx sz)
    | _, _, _, _, _ => none
  | .fieldAddr t x f => match fieldT P t f, avx N x with
    | some fd, some x => match sizeT P fd.type with
      | some n => if n = 0 then none else some (.fadr x fd.offset)
      | none => none
    | _, _ => none
  | .field t x f => match fieldT P t f, avx N x with
    | some fd, some x => match sizeT P fd.type, aggOf P fd.type with
      | some n, some ag => some (.fld x fd.offset (if ag then n else 1) ag)
      | _, _ => none
    | _, _ => none
  | .indexAddr t x i => match P.underlying t, avx N x, avx N i with
    | some (.slice e), some x, some i => (sizeT P e).map fun sz => .iadr x i sz
    | some (.array n e), some x, some i => (sizeT P e).map fun sz => .iarr x i n sz
    | _, _, _ => none
  | .extract x i => (avx N x).map fun x => .ext x i
  | .build t parts => match zeroT P t, placesT P t, parts.toList.mapM (fun p => (avx N p.2).map fun x => (p.1, x)) with
    | some z, some pl, some ps => match ps.mapM (fun p => (pl[p.1]?).map fun q => (q.1, q.2, p.2)) with
      | some qs => some (.build z qs)
      | none => none
    | _, _, _ => none
  | .makeFunc (.func f) first cap => match first.toList.mapM (avx N), cap.toList.mapM (avx N) with
    | some a, some b => some (.mkf f a b)
    | _, _ => none
  | .alloc t => (zeroT P t).map .new
  | .box _ x => (avx N x).map .box
  | .buildSlice t len parts => match elemT P t with
    | some e => match sizeT P e, zeroT P e, parts.toList.mapM (fun p => (avx N p.2).map fun x => (p.1, x)) with
      | some sz, some z, some ps => if z.length = sz ∧ len * sz ≤ 1024 then some (.mkl len sz (zeros len z) (ps.map fun p => (p.1 * sz, sz, p.2))) else none
      | _, _, _ => none
    | none => none
  | .makeSlice t l c => match elemT P t, avx N l, avx N c with
    | some e, some (.t x), some (.t y) => match sizeT P e, zeroT P e, P.info? e with
      | some sz, some z, some i => if x = y ∧ z.length = sz ∧ i.bytes ≤ 4096 then some (.mks (.t x) sz z) else none
      | _, _, _ => none
    | _, _, _ => none
  | .store t x v => match sizeT P t, avx N x, avx N v with
    | some n, some x, some v => some (.st x v n)
    | _, _, _ => none
  | .call c => match c.callee with
    | .builtin .len => match c.args.toList, c.argTypes.toList with
      | [x], [t] => match elemT P t, avx N x with
        | some _, some x => some (.len x)
        | _, _ => none
      | _, _ => none
    | .builtin .min => match c.args.toList with
      | [x, y] => match avx N x, avx N y with
        | some x, some y => some (.min x y)
        | _, _ => none
      | _ => none
    | .builtin .append => match c.args.toList, c.argTypes.toList with
      | [s, x], [t, u] => match elemT P t, elemT P u, avx N s, avx N x with
        | some e, some _, some s, some x => match sizeT P e, zeroT P e, P.info? e with
          | some sz, some z, some i => if z.length = sz ∧ i.bytes ≤ 4096 then some (.app s x sz) else none
          | _, _, _ => none
        | _, _, _, _ => none
      | _, _ => none
    | .builtin .copy => match c.args.toList, c.argTypes.toList with
      | [s, x], [t, u] => match elemT P t, elemT P u, avx N s, avx N x with
        | some e, some _, some s, some x => if sizeT P e = some 1 then some (.cpy s x 1) else none
        | _, _, _, _ => none
      | _, _ => none
    | .value f => match avx N f, c.args.toList.mapM (avx N) with
      | some f, some xs => some (.call f xs)
      | _, _ => none
    | _ => none
  | _ => none

/-! ### Lists of values that stand for lists of abstract ones -/

/-- Cell by cell. -/
structure Cov (w : World) (h : Hp) (T : Nat → Prop) (cs : List AV) (A : Array Value) : Prop where
  size : A.size = cs.length
  val : ∀ (j : Nat) (hj : j < cs.length) (hk : j < A.size), V w h T cs[j] A[j]

theorem mapM_get {α β : Type} {f : α → Option β} : ∀ {l : List α} {r : List β}, l.mapM f = some r → r.length = l.length ∧ ∀ (j : Nat) (hj : j < l.length) (hk : j < r.length), f l[j] = some r[j]
  | [], r, h => by
    simp at h
    subst h
    exact ⟨rfl, fun j hj => by cases hj⟩
  | a :: l, r, h => by
    simp only [List.mapM_cons, Option.bind_eq_bind, Option.pure_def, Option.bind_eq_some_iff] at h
    obtain ⟨b, hb, rest, hr, he⟩ := h
    injection he with he
    subst he
    obtain ⟨h1, h2⟩ := mapM_get hr
    refine ⟨by simp [h1], fun j hj hk => ?_⟩
    cases j with
    | zero => simpa using hb
    | succ j => simpa using h2 j (by simpa using hj) (by simpa using hk)

theorem Cov.consts {w : World} {h : Hp} {T : Nat → Prop} {A : Array Value} {cs : List AV} (hm : A.toList.mapM avc = some cs) : Cov w h T cs A ∧ cs.all one = true := by
  obtain ⟨h1, h2⟩ := mapM_get hm
  refine ⟨⟨by simpa using h1.symm, fun j hj hk => V.avc (by have g := h2 j (by simpa using hk) hj; simp only [Array.getElem_toList] at g; exact g)⟩, ?_⟩
  rw [List.all_eq_true]
  intro x hx
  obtain ⟨j, hj, rfl⟩ := List.mem_iff_getElem.1 hx
  exact avc_one (h2 j (by omega) hj)

theorem Cov.operands {T : Nat → Prop} {N : Nat} {fr : Fr} {h : Hp} {a : Act} {w : World} (rel : Rel T N fr h a w) {xs : Array Operand} {sx : List SX} (hm : xs.toList.mapM (avx N) = some sx) :
    Cov w h T (sx.map (ev fr)) (xs.map a.eval) := by
  obtain ⟨h1, h2⟩ := mapM_get hm
  refine ⟨by simpa using h1.symm, fun j hj hk => ?_⟩
  simp only [List.getElem_map, Array.getElem_map]
  exact V.ev rel (by have g := h2 j (by simpa using hk) (by simpa using hj); simp only [Array.getElem_toList] at g; exact g)

theorem splice_length {l xs : List AV} {off : Nat} (h : off + xs.length ≤ l.length) : (splice l off xs).length = l.length := by
  simp [splice]
  omega

theorem splice_get {l xs : List AV} {off j : Nat} (h : off + xs.length ≤ l.length) (hj : j < l.length) :
    (splice l off xs)[j]? = if off ≤ j ∧ j < off + xs.length then xs[j - off]? else l[j]? := by
  unfold splice
  by_cases h1 : j < off
  · rw [List.append_assoc, List.getElem?_append_left (by simp; omega), List.getElem?_take_of_lt h1, if_neg (by omega)]
  · by_cases h2 : j < off + xs.length
    · rw [if_pos ⟨by omega, h2⟩, List.append_assoc, List.getElem?_append_right (by simp; omega), List.getElem?_append_left (by simp; omega)]
      congr 1
      simp
      omega
    · rw [if_neg (by omega), List.getElem?_append_right (by simp; omega), List.getElem?_drop]
      congr 1
      simp
      omega

theorem foldl_set (off : Nat) : ∀ (l : List Value) (k : Nat) (A : Array Value), ((l.zipIdx k).foldl (fun cs p => cs.setIfInBounds (off + p.2) p.1) A).size = A.size ∧
    ∀ j, j < A.size → ((l.zipIdx k).foldl (fun cs p => cs.setIfInBounds (off + p.2) p.1) A)[j]? = if off + k ≤ j ∧ j < off + k + l.length then l[j - off - k]? else A[j]?
  | [], k, A => ⟨rfl, fun j hj => by simp; omega⟩
  | v :: l, k, A => by
    obtain ⟨h1, h2⟩ := foldl_set off l (k + 1) (A.setIfInBounds (off + k) v)
    simp only [List.zipIdx_cons, List.foldl_cons]
    refine ⟨by simpa using h1, fun j hj => ?_⟩
    rw [h2 j (by simpa using hj)]
    by_cases h3 : j = off + k
    · subst h3
      rw [if_neg (by omega), if_pos (by simp), show off + k - off - k = 0 by omega]
      simp [hj]
    · by_cases h4 : off + (k + 1) ≤ j ∧ j < off + (k + 1) + l.length
      · rw [if_pos h4, if_pos ⟨by omega, by simp; omega⟩]
        have : j - off - k = (j - off - (k + 1)) + 1 := by omega
        rw [this, List.getElem?_cons_succ]
      · rw [if_neg h4, if_neg (by simp; omega), Array.getElem?_setIfInBounds_ne (by omega)]

theorem Cov.splice {w : World} {h : Hp} {T : Nat → Prop} {cs xs : List AV} {A B : Array Value} (hA : Cov w h T cs A) (hB : Cov w h T xs B) {off : Nat} (hle : off + xs.length ≤ cs.length) :
    Cov w h T (AM.splice cs off xs) (B.zipIdx.foldl (fun cs (p : Value × Nat) => cs.setIfInBounds (off + p.2) p.1) A) := by
  obtain ⟨h1, h2⟩ := foldl_set off B.toList 0 A
  have e : B.zipIdx.foldl (fun cs (p : Value × Nat) => cs.setIfInBounds (off + p.2) p.1) A = (B.toList.zipIdx 0).foldl (fun cs p => cs.setIfInBounds (off + p.2) p.1) A := by
    rw [← Array.foldl_toList, Array.toList_zipIdx]
  rw [e]
  refine ⟨by rw [h1, hA.size, splice_length hle], fun j hj hk => ?_⟩
  have hjl : j < cs.length := by rw [splice_length hle] at hj; exact hj
  have g1 := h2 j (by rw [hA.size]; exact hjl)
  have g2 := splice_get hle hjl
  rw [List.getElem?_eq_getElem hj] at g2
  rw [Array.getElem?_eq_getElem hk] at g1
  simp only [Nat.add_zero, Nat.sub_zero, Array.length_toList, hB.size] at g1
  by_cases hc : off ≤ j ∧ j < off + xs.length
  · rw [if_pos hc] at g1 g2
    have hx : j - off < xs.length := by omega
    have hb : j - off < B.size := by rw [hB.size]; exact hx
    rw [List.getElem?_eq_getElem hx] at g2
    rw [Array.getElem?_toList, Array.getElem?_eq_getElem hb] at g1
    injection g1 with g1
    injection g2 with g2
    rw [g1, g2]
    exact hB.val _ hx hb
  · rw [if_neg hc] at g1 g2
    have hb : j < A.size := by rw [hA.size]; exact hjl
    rw [List.getElem?_eq_getElem hjl] at g2
    rw [Array.getElem?_eq_getElem hb] at g1
    injection g1 with g1
    injection g2 with g2
    rw [g1, g2]
    exact hA.val _ hjl hb

/-- Parts that stand for parts. -/
def Parts (w : World) (h : Hp) (T : Nat → Prop) (place : Nat → Option (Nat × Nat)) : List (Nat × Nat × AV) → List (Nat × Value) → Prop
  | [], [] => True
  | (off, sz, x) :: r, (i, v) :: r' => place i = some (off, sz) ∧ V w h T x v ∧ Parts w h T place r r'
  | _, _ => False

theorem fill_sound {w : World} {h : Hp} {T : Nat → Prop} {place : Nat → Option (Nat × Nat)} : ∀ (ps : List (Nat × Nat × AV)) (qs : List (Nat × Value)) (cs cs' : List AV) (A : Array Value),
    Parts w h T place ps qs → Cov w h T cs A → afill cs ps = some cs' → ∃ A', Instr.fill place A qs = some A' ∧ Cov w h T cs' A'
  | [], [], cs, cs', A, _, hA, hf => by
    simp only [afill] at hf
    injection hf with hf
    subst hf
    exact ⟨A, rfl, hA⟩
  | (off, sz, x) :: r, (i, v) :: r', cs, cs', A, hp, hA, hf => by
    obtain ⟨hpl, hV, hp⟩ := hp
    simp only [afill] at hf
    split at hf
    · rename_i hc
      obtain ⟨g1, g2⟩ := V.cells hV
      have hB : Cov w h T x.cells v.cells := ⟨g1, g2⟩
      have hS := Cov.splice hA hB (off := off) (by omega)
      obtain ⟨A', hA', hC'⟩ := fill_sound r r' _ cs' _ hp hS hf
      refine ⟨A', ?_, hC'⟩
      simp only [Instr.fill, hpl]
      rw [if_neg (by simp [g1, hA.size]; omega)]
      exact hA'
    · cases hf
  | [], _ :: _, _, _, _, hp, _, _ => hp.elim
  | _ :: _, [], _, _, _, hp, _, _ => hp.elim

end Go.AM

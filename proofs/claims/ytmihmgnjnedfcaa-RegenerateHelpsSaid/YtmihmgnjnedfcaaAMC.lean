/- The logic AM: what an operation that leaves memory alone comes to is what the machine does. No Go program in it. -/
import Derived.Test.YtmihmgnjnedfcaaAMB
import Derived.Laws.Cells
import Derived.Deep.AppendSrc
import Derived.Laws.MakeOwn
import Derived.Laws.CopyRow
namespace Go.AM
open Go

def avc : Value → Option AV
  | .bool b => some (.base (.bool b))
  | .int k n => some (.base (.int k n))
  | .string s => some (.base (.string s))
  | .nilFunc => some (.base .nilFunc)
  | .nilIface => some (.base .nilIface)
  | .slice none 0 0 => some .nils
  | .pointer none => some .nilp
  | _ => none

def avx (N : Nat) : Operand → Option SX
  | .tmp t => if t < N then some (.t t) else none
  | .const v => (avc v).map .k
  | .func f => some (.f f)
  | .global _ => none

theorem V.avc {w : World} {h : Hp} {T : Nat → Prop} {v : Value} {x : AV} (hx : avc v = some x) : V w h T x v := by
  unfold AM.avc at hx
  split at hx <;> cases hx
  all_goals first | exact .base _ rfl | exact .nils | exact .nilp

theorem avc_one {v : Value} {x : AV} (hx : AM.avc v = some x) : one x = true := by
  unfold AM.avc at hx
  split at hx <;> cases hx <;> rfl

theorem V.ev {T : Nat → Prop} {N : Nat} {fr : Fr} {h : Hp} {a : Act} {w : World} (rel : Rel T N fr h a w) {x : Operand} {sx : SX} (hx : avx N x = some sx) : V w h T (ev fr sx) (a.eval x) := by
  cases x with
  | tmp t =>
    simp only [avx] at hx
    split at hx
    · rename_i ht
      injection hx with hx
      subst hx
      exact rel.slots t ht
    · cases hx
  | const v =>
    simp only [avx, Option.map_eq_some_iff] at hx
    obtain ⟨y, hy, rfl⟩ := hx
    exact V.avc hy
  | global g => cases hx
  | func f =>
    injection hx with hx
    subst hx
    exact .fn f [] [] #[] #[] rfl (fun j hj => by cases hj) rfl (fun j hj => by cases hj)

theorem V.one {w : World} {h : Hp} {T : Nat → Prop} {v : Value} {x : AV} (hv : V w h T x v) (h1 : one x = true) : v.oneCell' = true := by
  cases hv with
  | base v hf => cases v <;> simp_all [flat, Value.oneCell']
  | agg => cases h1
  | tup => cases h1
  | _ => rfl

theorem V.cells {w : World} {h : Hp} {T : Nat → Prop} {v : Value} {x : AV} (hv : V w h T x v) :
    v.cells.size = x.cells.length ∧ ∀ (j : Nat) (hj : j < x.cells.length) (hk : j < v.cells.size), V w h T x.cells[j] v.cells[j] := by
  cases hv with
  | agg cells vs hl hv => exact ⟨hl, hv⟩
  | tup cells vs hl hv =>
    refine ⟨rfl, fun j hj hk => ?_⟩
    have hj0 : j = 0 := by simp only [AV.cells, List.length_singleton] at hj; omega
    subst hj0
    exact .tup cells vs hl hv
  | base v hf =>
    have e : v.cells = #[v] := by cases v <;> simp_all [flat, Value.cells]
    refine ⟨by rw [e]; rfl, fun j hj hk => ?_⟩
    have hj0 : j = 0 := by simp only [AV.cells, List.length_singleton] at hj; omega
    subst hj0
    simp only [e, AV.cells, List.getElem_singleton, List.getElem_toArray]
    exact .base v hf
  | nilp =>
    refine ⟨rfl, fun j hj hk => ?_⟩
    have hj0 : j = 0 := by simp only [AV.cells, List.length_singleton] at hj; omega
    subst hj0
    exact .nilp
  | nils =>
    refine ⟨rfl, fun j hj hk => ?_⟩
    have hj0 : j = 0 := by simp only [AV.cells, List.length_singleton] at hj; omega
    subst hj0
    exact .nils
  | ref b off hb =>
    refine ⟨rfl, fun j hj hk => ?_⟩
    have hj0 : j = 0 := by simp only [AV.cells, List.length_singleton] at hj; omega
    subst hj0
    exact .ref b off hb
  | sl b off len sz cap c e f hb hc hl =>
    refine ⟨rfl, fun j hj hk => ?_⟩
    have hj0 : j = 0 := by simp only [AV.cells, List.length_singleton] at hj; omega
    subst hj0
    exact .sl b off len sz cap c e f hb hc hl
  | sl0 b off sz a =>
    refine ⟨rfl, fun j hj hk => ?_⟩
    have hj0 : j = 0 := by simp only [AV.cells, List.length_singleton] at hj; omega
    subst hj0
    exact .sl0 b off sz a
  | fp cells b off c e f vs hb hh hT h1 hc hv =>
    refine ⟨rfl, fun j hj hk => ?_⟩
    have hj0 : j = 0 := by simp only [AV.cells, List.length_singleton] at hj; omega
    subst hj0
    exact .fp cells b off c e f vs hb hh hT h1 hc hv
  | fs n cells b off cap c e f vs hb hh hT h1 hc hv hn =>
    refine ⟨rfl, fun j hj hk => ?_⟩
    have hj0 : j = 0 := by simp only [AV.cells, List.length_singleton] at hj; omega
    subst hj0
    exact .fs n cells b off cap c e f vs hb hh hT h1 hc hv hn
  | fs0 a cap =>
    refine ⟨rfl, fun j hj hk => ?_⟩
    have hj0 : j = 0 := by simp only [AV.cells, List.length_singleton] at hj; omega
    subst hj0
    exact .fs0 a cap
  | fn f first cap vs us hl hv hl2 hv2 =>
    refine ⟨rfl, fun j hj hk => ?_⟩
    have hj0 : j = 0 := by simp only [AV.cells, List.length_singleton] at hj; omega
    subst hj0
    exact .fn f first cap vs us hl hv hl2 hv2

/-- Cells that can be read at an address. -/
structure Cells (w : World) (h : Hp) (T : Nat → Prop) (b off : Nat) (cs : List AV) : Prop where
  get : ∃ vs : Nat → Value, ∀ (j : Nat) (hj : j < cs.length), w.cell? ⟨b, off + j, none⟩ = some (vs j) ∧ V w h T cs[j] (vs j)
  one : cs.all AM.one = true

theorem all_drop_take {p : AV → Bool} {l : List AV} (h : l.all p = true) (a b : Nat) : ((l.drop a).take b).all p = true := by
  rw [List.all_eq_true] at h ⊢
  exact fun x hx => h x (List.mem_of_mem_drop (List.mem_of_mem_take hx))

theorem Cells.of_frozen {w : World} {h : Hp} {T : Nat → Prop} {cells : List AV} {b off : Nat} {c : Array Value} {e : TypeId} {f : Nat × Nat} {vs : Nat → Value} (hb : w.heap[b]? = some (.cells c e f))
    (h1 : cells.all AM.one = true) (hc : ∀ j, j < cells.length → c[off + j]? = some (vs j)) (hv : ∀ (j : Nat) (hj : j < cells.length), V w h T cells[j] (vs j)) : Cells w h T b off cells :=
  ⟨⟨vs, fun j hj => ⟨by simp [World.cell?, hb, hc j hj], hv j hj⟩⟩, h1⟩

theorem Cells.of_live {w : World} {h : Hp} {T : Nat → Prop} {b : Nat} {cs : List AV} (hr : HR w h T) (hb : h b = some cs) : Cells w h T b 0 cs := by
  obtain ⟨c, e, hw, hl, h1, hv⟩ := hr.blk b cs hb
  refine ⟨⟨fun j => (c[j]?).getD undef, fun j hj => ?_⟩, h1⟩
  obtain ⟨v, hcv, hV⟩ := hv j hj
  simp only [World.cell?, hw, Nat.zero_add, hcv, Option.getD_some]
  exact ⟨rfl, hV⟩

theorem Cells.cut {w : World} {h : Hp} {T : Nat → Prop} {b off : Nat} {cs : List AV} (hc : Cells w h T b off cs) (i n : Nat) : Cells w h T b (off + i) ((cs.drop i).take n) := by
  obtain ⟨⟨vs, hg⟩, h1⟩ := hc
  refine ⟨⟨fun j => vs (i + j), fun j hj => ?_⟩, all_drop_take h1 i n⟩
  have hj' : i + j < cs.length := by simp only [List.length_take, List.length_drop] at hj; omega
  obtain ⟨g1, g2⟩ := hg (i + j) hj'
  rw [Nat.add_assoc]
  refine ⟨g1, ?_⟩
  rw [List.getElem_take, List.getElem_drop]
  exact g2

theorem cellsAt_sound {w : World} {h : Hp} {T : Nat → Prop} {x : AV} {v : Value} {n : Nat} {cs : List AV} (hr : HR w h T) (hv : V w h T x v) (hc : cellsAt h x n = some cs) :
    ∃ b off, v = .pointer (some ⟨b, off, none⟩) ∧ cs.length = n ∧ Cells w h T b off cs := by
  cases hv with
  | ref b off hb =>
    refine ⟨b, off, rfl, ?_⟩
    simp only [cellsAt] at hc
    cases hh : h b with
    | none => simp [hh] at hc
    | some cs0 =>
      simp only [hh] at hc
      split at hc
      · rename_i hle
        injection hc with hc
        subst hc
        refine ⟨by simp; omega, ?_⟩
        have := (Cells.of_live hr hh).cut off n
        simpa using this
      · cases hc
  | fp cells b off c e f vs hb hh hT h1 hcc hvv =>
    refine ⟨b, off, rfl, ?_⟩
    simp only [cellsAt] at hc
    split at hc
    · rename_i hle
      injection hc with hc
      subst hc
      refine ⟨by simp; omega, ?_⟩
      have := (Cells.of_frozen hb h1 hcc hvv).cut 0 n
      simpa using this
    · cases hc
  | _ => simp [cellsAt] at hc

def isAggD : TypeDesc → Bool
  | .struct _ | .array _ _ => true
  | _ => false

theorem run_isAgg {P : Program} {t : TypeId} {d : TypeDesc} (hd : P.underlying t = some d) (w : World) : (isAgg t).run P w = .ok (isAggD d) w := by
  simp only [isAgg, Sem.run_bind, run_underlying hd, Result.andThen_ok]
  cases d <;> rfl

def aggOf (P : Program) (t : TypeId) : Option Bool := (P.underlying t).map isAggD
def sizeT (P : Program) (t : TypeId) : Option Nat := (P.info? t).map (·.size)

theorem run_isAgg' {P : Program} {t : TypeId} {b : Bool} (hd : aggOf P t = some b) (w : World) : (isAgg t).run P w = .ok b w := by
  simp only [aggOf, Option.map_eq_some_iff] at hd
  obtain ⟨d, hd, he⟩ := hd
  rw [run_isAgg hd, ← he]

theorem run_sizeOf' {P : Program} {t : TypeId} {n : Nat} (hn : sizeT P t = some n) (w : World) : (sizeOf t).run P w = .ok n w := by
  simp only [sizeT, Option.map_eq_some_iff] at hn
  obtain ⟨i, hi, rfl⟩ := hn
  simp [sizeOf, typeInfo, hi]

theorem addr_add (b off j : Nat) : (⟨b, off, none⟩ : Addr).add j = ⟨b, off + j, none⟩ := by
  unfold Addr.add
  split <;> simp_all

theorem load_sound {P : Program} {w : World} {h : Hp} {T : Nat → Prop} {t : TypeId} {b off n : Nat} {ag : Bool} {cs : List AV} {r : AV} (hag : aggOf P t = some ag) (hn : ag = true → sizeT P t = some n)
    (hc : Cells w h T b off cs) (hl : cs.length = n) (hld : ldv cs ag = some r) : ∃ v, (loadVar t ⟨b, off, none⟩).run P w = .ok v w ∧ V w h T r v := by
  obtain ⟨⟨vs, hg⟩, h1⟩ := hc
  cases ag with
  | true =>
    simp only [ldv, if_true] at hld
    injection hld with hld
    subst hld
    refine ⟨.agg ((List.range n).map vs).toArray, ?_, ?_⟩
    · have := run_loadCells (P := P) w ⟨b, off, none⟩ n vs (fun j hj => by rw [addr_add]; exact (hg j (by omega)).1)
      simp [loadVar, run_isAgg' hag, run_sizeOf' (hn rfl), this]
    · refine .agg cs _ (by simp [hl]) (fun j hj hk => ?_)
      simp
      exact (hg j hj).2
  | false =>
    simp only [ldv] at hld
    match cs, hld with
    | [x], hld =>
      simp at hld
      subst hld
      obtain ⟨g1, g2⟩ := hg 0 (by simp)
      refine ⟨vs 0, ?_, g2⟩
      simp only [Nat.add_zero] at g1
      simp [loadVar, run_isAgg' hag, g1]

end Go.AM

/- The logic AM: how the arguments of a law are opened into abstract values, and the law's row out of a contract. No Go program in it. -/
import Derived.Test.YtmihmgnjnedfcaaAMP
import Derived.Deep.Slices
import Derived.WideKeyArgs
import Derived.SizedLaws
import Derived.ChangeSame
import Derived.RowKit
import Derived.Below
import Derived.OpenShut
import Derived.ChangeCalls
set_option linter.unusedSimpArgs false
set_option linter.unusedVariables false
namespace Go.AM
open Go Go.ChangeShapes Go.WideShapes Go.Deep Go.RowKit

/-- Nobody holds a block. -/
def nobody : Nat → Prop := fun _ => False

theorem HR.empty (w : World) : HR w hemp nobody where
  blk b cs hb := by simp [hemp] at hb
  held b hb := False.elim hb

/-- What the cells of a type are, opened. -/
def OpenT (P : Program) : Nat → TypeId → List AV → Prop
  | 0, _, _ => False
  | n + 1, t, avs => match P.underlying t with
    | some (.int k) => ∃ z, avs = [.base (.int k z)] ∧ (Lit.int k z).wf = true
    | some .bool => ∃ b, avs = [B b]
    | some (.slice e) => ∃ x m cells, avs = [x] ∧ SV (P.cellsOf e) x m cells ∧ m * P.bytesOf e ≤ reachBytes ∧ ∀ i, i < m → OpenT P n e ((cells.drop (i * P.cellsOf e)).take (P.cellsOf e))
    | some (.struct fs) => ∃ L : List (List AV), avs = L.flatten ∧ L.length = fs.size ∧ ∀ (j : Nat) (f : Field) (l : List AV), fs[j]? = some f → L[j]? = some l → OpenT P n f.type l ∧ l.length = P.cellsOf f.type
    | some (.array k e) => ∃ L : List (List AV), avs = L.flatten ∧ L.length = k ∧ ∀ l ∈ L, OpenT P n e l ∧ l.length = P.cellsOf e
    | _ => False

/-- The types that are opened. -/
def openB (P : Program) : Nat → TypeId → Bool
  | 0, _ => false
  | n + 1, t => match P.underlying t with
    | some (.int _) => P.cellsOf t == 1
    | some .bool => P.cellsOf t == 1
    | some (.slice e) => P.cellsOf t == 1 && openB P n e && Nat.blt 0 (P.cellsOf e)
    | some (.struct fs) => fs.toList.all (fun f => openB P n f.type) && P.cellsOf t == (fs.toList.map fun f => P.cellsOf f.type).sum &&
        (List.range fs.toList.length).all fun j => match fs.toList[j]? with | some f => f.offset == ((fs.toList.take j).map fun f => P.cellsOf f.type).sum | none => true
    | some (.array k e) => openB P n e && P.cellsOf t == k * P.cellsOf e
    | _ => false

section
variable {H : Type} {enc : TypeId × Value → H} {P : Program} {w : World} {spare : Nat → Bool} {held : Bool}

/-- The cells' values, opened. -/
def OpV (w : World) (cs : List Value) (avs : List AV) : Prop := avs.length = cs.length ∧ avs.all one = true ∧ ∀ (j : Nat) (a : AV) (v : Value), avs[j]? = some a → cs[j]? = some v → V w hemp nobody a v

theorem OpV.append {cs cs' : List Value} {a a' : List AV} (h : OpV w cs a) (h' : OpV w cs' a') : OpV w (cs ++ cs') (a ++ a') := by
  obtain ⟨h1, h2, h3⟩ := h
  obtain ⟨g1, g2, g3⟩ := h'
  refine ⟨by simp [h1, g1], by simp [h2, g2], fun j x v hx hv => ?_⟩
  by_cases hj : j < a.length
  · rw [List.getElem?_append_left hj] at hx
    rw [List.getElem?_append_left (by omega)] at hv
    exact h3 j x v hx hv
  · rw [List.getElem?_append_right (by omega)] at hx
    rw [List.getElem?_append_right (by omega), ← h1] at hv
    exact g3 _ x v hx hv
theorem OpV.nil : OpV w [] [] := ⟨rfl, rfl, fun j a v h => by simp at h⟩
theorem OpV.one {v : Value} {a : AV} (h : V w hemp nobody a v) (h1 : AM.one a = true) : OpV w [v] [a] := by
  refine ⟨rfl, by simp [h1], fun j x y hx hy => ?_⟩
  cases j with
  | zero => simp at hx hy; subst hx hy; exact h
  | succ j => simp at hx

/-- Cells laid side by side. -/
theorem tile {sz : Nat} : ∀ {n : Nat} {cs : List Value} {G : Nat → List AV → Prop}, cs.length = n * sz → (∀ i, i < n → ∃ avs, OpV w ((cs.drop (i * sz)).take sz) avs ∧ G i avs) →
    ∃ L : List (List AV), OpV w cs L.flatten ∧ L.length = n ∧ ∀ (i : Nat) (l : List AV), L[i]? = some l → G i l ∧ l.length = sz
  | 0, cs, G, hl, _ => by
    have : cs = [] := List.eq_nil_of_length_eq_zero (by omega)
    subst this
    exact ⟨[], OpV.nil, rfl, fun i l h => by simp at h⟩
  | n + 1, cs, G, hl, h => by
    have hl' : cs.length = n * sz + sz := by rw [hl, Nat.add_mul]; omega
    obtain ⟨L, h1, h2, h3⟩ := tile (sz := sz) (n := n) (cs := cs.take (n * sz)) (G := G) (by rw [List.length_take]; omega) (fun i hi => by
      obtain ⟨avs, g1, g2⟩ := h i (by omega)
      refine ⟨avs, ?_, g2⟩
      have hle : i * sz + sz ≤ n * sz := by
        have := Nat.mul_le_mul_right sz (show i + 1 ≤ n by omega)
        rw [Nat.add_mul] at this; omega
      rw [List.drop_take, List.take_take, Nat.min_eq_left (by omega)]
      exact g1)
    obtain ⟨avs, g1, g2⟩ := h n (by omega)
    refine ⟨L ++ [avs], ?_, by simp [h2], fun i l hi => ?_⟩
    · rw [List.flatten_append]
      have e : cs = cs.take (n * sz) ++ (cs.drop (n * sz)).take sz := by
        conv => lhs; rw [← List.take_append_drop (n * sz) cs]
        congr 1
        rw [List.take_of_length_le (by simp; omega)]
      conv => arg 2; rw [e]
      exact h1.append (by simpa using g1)
    · by_cases hin : i < n
      · rw [List.getElem?_append_left (by omega)] at hi
        exact h3 i l hi
      · have hil := (List.getElem?_eq_some_iff.1 hi).1
        simp at hil
        have : i = n := by omega
        subst this
        rw [List.getElem?_append_right (by omega), h2] at hi
        simp at hi
        subst hi
        exact ⟨g2, by rw [g1.1]; simp; omega⟩

/-- The same for the fields of a struct. -/
theorem tileF {Ty : Type} (size off : Ty → Nat) {G : Ty → List AV → Prop} : ∀ {fs : List Ty} {o : Nat} {cs : List Value}, cs.length = o + (fs.map size).sum →
    (∀ j f, fs[j]? = some f → off f = o + ((fs.take j).map size).sum) → (∀ f ∈ fs, ∃ avs, OpV w ((cs.drop (off f)).take (size f)) avs ∧ G f avs) →
    ∃ L : List (List AV), OpV w (cs.drop o) L.flatten ∧ L.length = fs.length ∧ ∀ (j : Nat) (f : Ty) (l : List AV), fs[j]? = some f → L[j]? = some l → G f l ∧ l.length = size f
  | [], o, cs, hl, _, _ => ⟨[], by rw [List.drop_eq_nil_of_le (by simpa using Nat.le_of_eq hl)]; exact OpV.nil, rfl, fun j f l h => by simp at h⟩
  | f :: fs, o, cs, hl, ho, h => by
    have hl' : cs.length = o + size f + (fs.map size).sum := by simp at hl; omega
    obtain ⟨L, h1, h2, h3⟩ := tileF size off (G := G) (fs := fs) (o := o + size f) (cs := cs) hl' (fun j g hj => by
      have := ho (j + 1) g (by simpa using hj)
      rw [List.take_succ_cons, List.map_cons, List.sum_cons] at this
      omega) (fun g hg => h g (by simp [hg]))
    obtain ⟨avs, g1, g2⟩ := h f (by simp)
    have e0 := ho 0 f rfl
    simp at e0
    rw [e0] at g1
    refine ⟨avs :: L, ?_, by simp [h2], fun j g l hg hl2 => ?_⟩
    · have e : cs.drop o = (cs.drop o).take (size f) ++ cs.drop (o + size f) := by
        conv => lhs; rw [← List.take_append_drop (size f) (cs.drop o)]
        rw [List.drop_drop]
      rw [e, List.flatten_cons]
      exact g1.append h1
    · cases j with
      | zero =>
        simp at hg hl2
        subst hg hl2
        exact ⟨g2, by rw [g1.1]; simp; omega⟩
      | succ j => exact h3 j g l (by simpa using hg) (by simpa using hl2)

theorem weights_all {P : Program} {e : TypeId} {ds : List (DataW H)} : ∀ {d : DataW H}, d ∈ ds → ∀ n ∈ d.weights P e, n ∈ DataW.weightsAll P e ds := by
  induction ds with
  | nil => intro d h; simp at h
  | cons a ds ih =>
    intro d h n hn
    simp only [DataW.weightsAll, List.mem_append]
    rcases List.mem_cons.1 h with rfl | h
    · exact .inl hn
    · exact .inr (ih h n hn)

theorem open_cells : ∀ (n : Nat) (t : TypeId) (cs : List Value) (fuel : Nat) (x : DataW H × List MemPlace), openB P n t = true → DataW.trod enc P w 0 spare held fuel t cs = some x →
    (∀ k ∈ x.1.weights P t, k ≤ reachBytes) → ∃ avs, OpV w cs avs ∧ OpenT P n t avs
  | 0, t, cs, fuel, x, hb, _, _ => by simp [openB] at hb
  | n + 1, t, cs, fuel, x, hb, h, hw => by
    unfold openB at hb
    split at hb
    · rename_i k ht
      obtain ⟨z, rfl, _, hwf⟩ := DataW.trod_int ht h
      exact ⟨[.base (.int k z)], OpV.one (.base _ rfl) rfl, by unfold OpenT; rw [ht]; exact ⟨z, rfl, hwf⟩⟩
    · rename_i ht
      obtain ⟨b, rfl, _⟩ := DataW.trod_bool ht h
      exact ⟨[B b], OpV.one (.base _ rfl) rfl, by unfold OpenT; rw [ht]; exact ⟨b, rfl⟩⟩
    · rename_i e ht
      simp only [Bool.and_eq_true, beq_iff_eq] at hb
      have hb := And.intro hb.1 hb.2
      rcases open_slice ht h with ⟨rfl, _⟩ | ⟨a, len, cap, m, n', D, Pl, rfl, _, hl, hm, hmm, rfl, hx⟩
      · refine ⟨[.nils], OpV.one .nils rfl, ?_⟩
        unfold OpenT; rw [ht]
        exact ⟨.nils, 0, [], rfl, ⟨by simp, .inl ⟨rfl, rfl⟩⟩, by omega, fun i hi => by omega⟩
      · have hwl : (len + (m - len)) * P.bytesOf e ≤ reachBytes := hw _ (by simp [DataW.weights, ht])
        have hlm : len ≤ m := by rw [hmm]; split <;> omega
        have hwe : ∀ i, i < len → ∀ k ∈ (D i).weights P e, k ≤ reachBytes := fun i hi k hk => hw k (by
          simp only [DataW.weights, ht, List.mem_cons, List.mem_append]
          exact .inr (.inl (weights_all (List.mem_map.2 ⟨i, List.mem_range.2 hi, rfl⟩) k hk)))
        have each : ∀ i, i < len → ∃ avs, (∃ cs', w.cells? 0 (a.add (i * P.cellsOf e)) (P.cellsOf e) = some cs' ∧ OpV w cs' avs) ∧ OpenT P n e avs := fun i hi => by
          obtain ⟨cs', h1, h2⟩ := hx i (by omega)
          obtain ⟨avs, h3, h4⟩ := open_cells n e cs' n' _ hb.1.2 h2 (hwe i hi)
          exact ⟨avs, ⟨cs', h1, h3⟩, h4⟩
        obtain ⟨A, hA⟩ := choose_lt each
        have hAl : ∀ i, i < len → (A i).length = P.cellsOf e := fun i hi => by
          obtain ⟨⟨cs', h1, h2⟩, _⟩ := hA i hi
          obtain ⟨_, h3, _⟩ := World.cells?_some h1
          rw [h2.1, h3]
        -- the cells, side by side
        let cells : List AV := (List.range len).flatMap A
        have hcl : ∀ k, k ≤ len → ((List.range k).flatMap A).length = k * P.cellsOf e := by
          intro k
          induction k with
          | zero => intro _; simp
          | succ k ih =>
            intro hk
            rw [List.range_succ, List.flatMap_append, List.length_append, ih (by omega)]
            simp [hAl k (by omega), Nat.add_mul]
        have hget : ∀ i, i < len → (cells.drop (i * P.cellsOf e)).take (P.cellsOf e) = A i := by
          intro i hi
          have e1 : cells = (List.range i).flatMap A ++ (A i ++ ((List.range (len - i - 1)).map (i + 1 + ·)).flatMap A) := by
            show (List.range len).flatMap A = _
            rw [range_split (show i + 1 ≤ len by omega), List.range_succ]
            simp [List.flatMap_append, show len - (i + 1) = len - i - 1 by omega]
          rw [e1, List.drop_append_of_le_length (by rw [hcl i (by omega)]; omega), List.drop_eq_nil_of_le (by rw [hcl i (by omega)]; omega), List.nil_append, ← hAl i hi, List.take_left']
          rfl
        have hone : cells.all one = true := by
          rw [List.all_eq_true]
          intro x hx
          obtain ⟨i, hi, hx⟩ := List.mem_flatMap.1 hx
          obtain ⟨⟨cs', h1, h2⟩, _⟩ := hA i (List.mem_range.1 hi)
          exact List.all_eq_true.1 h2.2.1 x hx
        have hopen : OpenT P (n + 1) t [.fs len cells] := by
          unfold OpenT; rw [ht]
          refine ⟨_, len, cells, rfl, ⟨hcl len (by omega), .inr rfl⟩, Nat.le_trans (Nat.mul_le_mul_right _ (by omega)) hwl, fun i hi => ?_⟩
          rw [hget i hi]
          exact (hA i hi).2
        refine ⟨[.fs len cells], OpV.one ?_ rfl, hopen⟩
        by_cases hl0 : len = 0
        · subst hl0
          have hc0 : cells = [] := rfl
          rw [hc0]
          exact .fs0 a cap
        have hsz : 0 < P.cellsOf e := by have := hb.2; simp [Nat.blt] at this; omega
        have hcell : ∀ i, i < len → ∀ r, r < P.cellsOf e → ∃ v, w.cell? (a.add (i * P.cellsOf e + r)) = some v ∧ ∀ x, (A i)[r]? = some x → V w hemp nobody x v := fun i hi r hr => by
          obtain ⟨⟨cs', h1, h2⟩, _⟩ := hA i hi
          obtain ⟨_, h3, h4⟩ := World.cells?_some h1
          have h5 := h4 r hr
          rw [add_add] at h5
          have h6 : cs'[r]? = some cs'[r] := List.getElem?_eq_getElem (by omega)
          exact ⟨cs'[r], by rw [h5, h6], fun x hx => h2.2.2 r x _ hx h6⟩
        obtain ⟨v0, hv0, _⟩ := hcell 0 (by omega) 0 hsz
        obtain ⟨b, off, sp⟩ := a
        have hsp : sp = none := by
          unfold World.cell? at hv0
          cases sp with
          | none => rfl
          | some s =>
            split at hv0
            · simp [Addr.add] at hv0
            · cases hv0
        subst hsp
        obtain ⟨c, e', f, hblk⟩ : ∃ c e' f, w.heap[b]? = some (.cells c e' f) := by
          unfold World.cell? at hv0
          split at hv0
          · rename_i c e' f hh
            exact ⟨c, e', f, by simpa [Addr.add] using hh⟩
          · cases hv0
        have hcell2 : ∀ i, i < len → ∀ r, r < P.cellsOf e → ∃ v, c[off + (i * P.cellsOf e + r)]? = some v ∧ ∀ x, (A i)[r]? = some x → V w hemp nobody x v := fun i hi r hr => by
          obtain ⟨v, h1, h2⟩ := hcell i hi r hr
          rw [add_plain] at h1
          unfold World.cell? at h1
          rw [hblk] at h1
          exact ⟨v, by simpa using h1, h2⟩
        have split : ∀ j, j < len * P.cellsOf e → j / P.cellsOf e < len ∧ j % P.cellsOf e < P.cellsOf e ∧ j / P.cellsOf e * P.cellsOf e + j % P.cellsOf e = j := fun j hj =>
          ⟨Nat.div_lt_of_lt_mul (by rw [Nat.mul_comm]; exact hj), Nat.mod_lt _ hsz, by have := Nat.div_add_mod j (P.cellsOf e); rw [Nat.mul_comm]; exact this⟩
        have hcl' : cells.length = len * P.cellsOf e := hcl len (Nat.le_refl _)
        have hcell3 : ∀ j, j < cells.length → ∃ v, c[off + j]? = some v ∧ ∀ x, cells[j]? = some x → V w hemp nobody x v := fun j hj => by
          obtain ⟨h1, h2, h3⟩ := split j (by omega)
          obtain ⟨v, h4, h5⟩ := hcell2 _ h1 _ h2
          rw [h3] at h4
          refine ⟨v, h4, fun x hx => h5 x ?_⟩
          rw [← hget _ h1, List.getElem?_take, if_pos h2, List.getElem?_drop, h3]
          exact hx
        obtain ⟨vs, hvs⟩ := choose_lt (α := Value) hcell3
        exact .fs len cells b off cap c e' f vs hblk rfl (fun h => h) hone (fun j hj => (hvs j hj).1) (fun j hj => (hvs j hj).2 _ (List.getElem?_eq_getElem hj)) hl
    · rename_i fs ht
      simp only [Bool.and_eq_true, beq_iff_eq, List.all_eq_true, List.mem_range] at hb
      obtain ⟨⟨hb1, hb2⟩, hb3⟩ := hb
      obtain ⟨xs, n', _, rfl, hl, hxl, hf⟩ := DataW.trod_struct ht h
      have hwf : ∀ (j : Nat) (f : Field) (y : DataW H × List MemPlace), fs[j]? = some f → xs[j]? = some y → ∀ k ∈ y.1.weights P f.type, k ≤ reachBytes := fun j f y hj hy k hk => hw k (by
        simp only [DataW.weights, ht]
        exact DataW.weights_mem_each (j := j) (t := f.type) (d := y.1) (by simp [hj]) (by simp [hy]) k hk)
      obtain ⟨L, h1, h2, h3⟩ := tileF (w := w) (fun f : Field => P.cellsOf f.type) (fun f => f.offset) (G := fun f avs => OpenT P n f.type avs) (fs := fs.toList) (o := 0) (cs := cs) (by rw [hl, hb2]; simp) (fun j f hj => by
        have hjl := (List.getElem?_eq_some_iff.1 hj).1
        have := hb3 j hjl
        rw [hj] at this
        simpa using this) (fun f hfm => by
        obtain ⟨j, hj, rfl⟩ := List.mem_iff_getElem.1 hfm
        have hj' : j < fs.size := by simpa using hj
        have g := hf j fs[j] (by simp [hj'])
        have hxj : xs[j]? = some xs[j] := List.getElem?_eq_getElem (by omega)
        rw [hxj] at g
        obtain ⟨avs, g1, g2⟩ := open_cells n _ _ n' _ (hb1 _ hfm) (by simpa using g) (by simpa using hwf j fs[j] _ (by simp [hj']) hxj)
        exact ⟨avs, g1, g2⟩)
      refine ⟨L.flatten, by simpa using h1, ?_⟩
      unfold OpenT; rw [ht]
      exact ⟨L, rfl, by simpa using h2, fun j f l hj hl2 => h3 j f l (by simpa using hj) hl2⟩
    · rename_i k e ht
      simp only [Bool.and_eq_true, beq_iff_eq] at hb
      obtain ⟨xs, n', _, rfl, hl, hxl, hf⟩ := DataW.trod_array ht h
      have hwf : ∀ y ∈ xs, ∀ k ∈ y.1.weights P e, k ≤ reachBytes := fun y hy k hk => hw k (by
        simp only [DataW.weights, ht]
        exact weights_all (List.mem_map.2 ⟨y, hy, rfl⟩) k hk)
      obtain ⟨L, h1, h2, h3⟩ := tile (w := w) (sz := P.cellsOf e) (n := k) (cs := cs) (G := fun _ avs => OpenT P n e avs) (by rw [hl, hb.2]) (fun i hi => by
        have g := hf i hi
        have hxj : xs[i]? = some xs[i] := List.getElem?_eq_getElem (by omega)
        rw [hxj] at g
        exact open_cells n _ _ n' _ hb.1 g (hwf _ (List.getElem_mem _)))
      refine ⟨L.flatten, h1, ?_⟩
      unfold OpenT; rw [ht]
      refine ⟨L, rfl, h2, fun l hl2 => ?_⟩
      obtain ⟨j, hj, rfl⟩ := List.mem_iff_getElem.1 hl2
      exact h3 j _ (List.getElem?_eq_getElem hj)
    · cases hb

/-- An argument's abstract value, from its cells'. -/
def argAV (P : Program) (t : TypeId) (avs : List AV) : AV := match P.underlying t with
  | some (.struct _) => .agg avs
  | some (.array _ _) => .agg avs
  | _ => avs.headD .nils

def AOpen (P : Program) (n : Nat) : List TypeId → List AV → Prop
  | [], [] => True
  | t :: ts, a :: as => (∃ avs, OpenT P n t avs ∧ a = argAV P t avs) ∧ AOpen P n ts as
  | _, _ => False

theorem open_arg {n : Nat} {t : TypeId} {v : Value} {d : DataW H} {ps : List MemPlace} {r : Reach} {b0 : Nat} (hb : openB P n t = true) (h : DataW.Trod enc P w 0 spare held t v d ps) (hw : ∀ k ∈ d.weights P t, k ≤ reachBytes)
    (hok : Value.okWide P w r b0 t v) : ∃ avs, OpenT P n t avs ∧ V w hemp nobody (argAV P t avs) v := by
  obtain ⟨fuel, hf⟩ := h
  obtain ⟨avs, h1, h2⟩ := open_cells n t _ fuel _ hb hf hw
  refine ⟨avs, h2, ?_⟩
  have agg : ∀ cs : Array Value, v = .agg cs → V w hemp nobody (.agg avs) v := by
    rintro cs rfl
    simp only [Value.cells] at h1
    refine .agg avs cs (by have := h1.1; simp at this; omega) fun j hj hk => ?_
    exact h1.2.2 j _ _ (List.getElem?_eq_getElem hj) (by simp [hk])
  have single : v.cells.toList = [v] → V w hemp nobody (avs.headD .nils) v := by
    intro hc
    rw [hc] at h1
    obtain ⟨g1, g2, g3⟩ := h1
    match avs, g1 with
    | [a], _ => exact g3 0 a v rfl rfl
  cases n with
  | zero => simp [openB] at hb
  | succ n =>
    unfold openB at hb
    unfold argAV
    split at hb
    · rename_i k ht
      obtain ⟨z, rfl⟩ := okWide_int ht hok
      rw [ht]
      exact single rfl
    · rename_i ht
      obtain ⟨z, rfl⟩ := okWide_bool ht hok
      rw [ht]
      exact single rfl
    · rename_i e ht
      obtain ⟨a, l, c, rfl⟩ := okWide_slice ht hok
      rw [ht]
      exact single rfl
    · rename_i fs ht
      obtain ⟨cs, rfl, _⟩ := okWide_struct ht hok
      rw [ht]
      exact agg cs rfl
    · rename_i k e ht
      simp only [Value.okWide, ht] at hok
      obtain ⟨cs, rfl, _⟩ := hok
      rw [ht]
      exact agg cs rfl
    · cases hb

theorem open_args {n : Nat} {r : Reach} {b0 : Nat} : ∀ {ts : List TypeId} {vs : List Value} {ds : List (DataW H)} {ps : List MemPlace}, DataW.TrodAll enc P w 0 spare held ts vs ds ps → ts.all (openB P n) = true →
    (∀ k ∈ DataW.weightsEach P ts ds, k ≤ reachBytes) → (∀ (j : Nat) t v, ts[j]? = some t → vs[j]? = some v → Value.okWide P w r b0 t v) →
    ∃ as : List AV, as.length = vs.length ∧ (∀ (j : Nat) a v, as[j]? = some a → vs[j]? = some v → V w hemp nobody a v) ∧ AOpen P n ts as
  | [], [], [], _, _, _, _, _ => ⟨[], rfl, fun j a v h => by simp at h, trivial⟩
  | t :: ts, v :: vs, d :: ds, _, ⟨p, q, h1, h2, _⟩, hb, hw, hok => by
    simp only [List.all_cons, Bool.and_eq_true] at hb
    simp only [DataW.weightsEach, List.mem_append] at hw
    obtain ⟨avs, g1, g2⟩ := open_arg hb.1 h1 (fun k hk => hw k (.inl hk)) (hok 0 t v rfl rfl)
    obtain ⟨as, e1, e2, e3⟩ := open_args h2 hb.2 (fun k hk => hw k (.inr hk)) (fun j t v ht hv => hok (j + 1) t v ht hv)
    refine ⟨argAV P t avs :: as, by simp [e1], fun j a u ha hu => ?_, ⟨avs, g1, rfl⟩, e3⟩
    cases j with
    | zero => simp at ha hu; subst ha hu; exact g2
    | succ j => exact e2 j a u (by simpa using ha) (by simpa using hu)
  | [], _ :: _, _, _, h, _, _, _ => by simp [DataW.TrodAll] at h
  | [], [], _ :: _, _, h, _, _, _ => by simp [DataW.TrodAll] at h
  | _ :: _, [], _, _, h, _, _, _ => by simp [DataW.TrodAll] at h
  | _ :: _, _ :: _, [], _, h, _, _, _ => by simp [DataW.TrodAll] at h

theorem trodAll_stays (hl : laidOutB P = true) {W W' : World} {sp' : Nat → Bool} : ∀ {ts : List TypeId} {vs : List Value} {ds : List (DataW H)} {ps : List MemPlace}, ts.all (fun t => P.readableRec t && Nat.blt t P.types.size) = true →
    DataW.TrodAll enc P W 0 (fun _ => true) true ts vs ds ps → (∀ p ∈ ps, W.sameAt W' p) → (∀ p ∈ ps, sp' p.block = true) → DataW.TrodAll enc P W' 0 sp' true ts vs ds ps
  | [], [], [], _, _, h, _, _ => h
  | t :: ts, v :: vs, d :: ds, _, hr, ⟨p, q, h1, h2, e⟩, hs, hsp => by
    subst e
    simp only [List.all_cons, Bool.and_eq_true] at hr
    refine ⟨p, q, WideElems.Trod_stays hl hr.1.1 (by have := hr.1.2; simp [Nat.blt] at this; exact this) h1 (fun x hx => hs x (List.mem_append.2 (.inl hx))) (fun x hx => hsp x (List.mem_append.2 (.inl hx))), trodAll_stays hl hr.2 h2 (fun x hx => hs x (List.mem_append.2 (.inr hx))) (fun x hx => hsp x (List.mem_append.2 (.inr hx))), rfl⟩
  | [], _ :: _, _, _, _, h, _, _ => by simp [DataW.TrodAll] at h
  | [], [], _ :: _, _, _, h, _, _ => by simp [DataW.TrodAll] at h
  | _ :: _, [], _, _, _, h, _, _ => by simp [DataW.TrodAll] at h
  | _ :: _, _ :: _, [], _, _, h, _, _ => by simp [DataW.TrodAll] at h
end

/-- THE LAW'S ROW out of the contract of its function: whatever arguments are opened, it answers true. -/
theorem law_lifted {C : Checked} {os : Os} {f : FuncId} {fn : Func} {s : ChangeSpec} {conds : List PathCond} {tb : TypeId} (n : Nat) {H : Type} {enc : TypeId × Value → H}
    (own : ownKnob C.prog.godebug = none) (started : os.Started) (noInit : C.prog.inits.idxOf? f = none) (hfn : C.prog.funcs[f]? = some fn)
    (witness : ∃ (w : World) (tape : Tape) (i : Input), w.os = os ∧ (w.forCall tape i).Shaped C.prog ∧ i.vars = [] ∧ Input.okWide C.prog (w.forCall tape i) .any w.heap.size f i ∧
      s.pre6 enc C.prog fn conds false (w.forCall tape i).memory i.args ∧ ({} : Assume).holds C.prog (lone (Frame.enter C.prog f i.args .normal) [] (w.forCall tape i)))
    (hvars : s.vars = []) (hres : fn.resultTypes = #[tb]) (htb : C.prog.underlying tb = some .bool) (hlaid : laidOutB C.prog = true) (hread : fn.params.toList.all (fun t => C.prog.readableRec t && Nat.blt t C.prog.types.size) = true)
    (hopen : fn.params.toList.all (openB C.prog n) = true) (hs : ∀ ds : List (DataW H), ds.length = fn.params.size → s.fn H ds = { results := [.lit (.bool true)], args := ds })
    (contract : ∀ as : List AV, AOpen C.prog n fn.params.toList as → Pure C.prog f as (B true)) :
    ReturnsInHanded {} C os f .any (s.pre6 enc C.prog fn conds false) (s.post enc C.prog fn false true false false) := by
  refine returnsInHanded_of_change_sized own started noInit hfn witness ?_
  intro W base args ds gs before hval hW hcnd hsz _
  have hW' := hW
  obtain ⟨p, q, hA, hV, rfl, hfz, hnd⟩ := hW
  rw [hvars] at hV
  obtain ⟨rfl, rfl⟩ := trodVars_none hV
  have hsz' : ∀ k ∈ DataW.weightsEach C.prog fn.params.toList ds, k ≤ reachBytes := by
    intro k hk
    simp only [ChangeSpec.plain, hvars, DataSpec.varTypes, List.append_nil] at hsz
    have := List.all_eq_true.1 hsz k (by simpa using hk)
    simpa using this
  obtain ⟨as, e1, e2, e3⟩ := open_args hA hopen hsz' (fun j t v ht hv => hval j t v (by simpa using ht) (by simpa using hv))
  have hcov : Cov W hemp nobody as args := ⟨by simpa using e1.symm, fun j hj hk => e2 j _ _ (List.getElem?_eq_getElem hj) (by simp [hk])⟩
  have hlen : ds.length = fn.params.size := by
    have := (trodAll_length hA).2
    simpa using this
  refine ((contract as e3 hemp).2 nobody W args (HR.empty W) hcov).mono fun e W' ⟨v, h', r, he, ⟨hv, hh⟩, ev, hr, hvr⟩ => ?_
  subst hv hh he
  have hrb : r = .bool true := by cases hvr; rfl
  subst hrb
  have bel : Below W.heap.size W W' := ⟨ev.os, ev.tape, ev.output, ev.size, fun k hk => ev.same k hk rfl⟩
  refine ⟨_, rfl, ds, [], p ++ [], [], p, [], hW', ?_, ?_, ?_, bel.frame _, fun h => by cases h⟩
  · rw [List.append_nil, hs ds hlen, hres]
    exact trodAll_mk1 (shut_bool htb _)
  · rw [List.append_nil, hs ds hlen]
    refine trodAll_stays hlaid hread hA (fun x hx => bel.same (hA.lt x hx)) (fun x hx => ?_)
    simpa using hA.lt x hx
  · rw [List.append_nil, hs ds hlen, hvars]
    rfl

/-! ### What stands in the types that the laws have -/

section
variable {P : Program} {n : Nat} {t e : TypeId} {avs : List AV}

theorem OpenT.int {k : IntKind} (ht : P.underlying t = some (.int k)) (h : OpenT P (n + 1) t avs) : ∃ z, avs = [.base (.int k z)] ∧ (Lit.int k z).wf = true := by
  unfold OpenT at h; rw [ht] at h; exact h
theorem OpenT.struct {fs : Array Field} (ht : P.underlying t = some (.struct fs)) (h : OpenT P (n + 1) t avs) :
    ∃ L : List (List AV), avs = L.flatten ∧ L.length = fs.size ∧ ∀ (j : Nat) (f : Field) (l : List AV), fs[j]? = some f → L[j]? = some l → OpenT P n f.type l ∧ l.length = P.cellsOf f.type := by
  unfold OpenT at h; rw [ht] at h; exact h
theorem OpenT.array {k : Nat} (ht : P.underlying t = some (.array k e)) (h : OpenT P (n + 1) t avs) :
    ∃ L : List (List AV), avs = L.flatten ∧ L.length = k ∧ ∀ l ∈ L, OpenT P n e l ∧ l.length = P.cellsOf e := by
  unfold OpenT at h; rw [ht] at h; exact h
theorem OpenT.slice (ht : P.underlying t = some (.slice e)) (h : OpenT P (n + 1) t avs) :
    ∃ x m cells, avs = [x] ∧ SV (P.cellsOf e) x m cells ∧ m * P.bytesOf e ≤ reachBytes ∧ ∀ i, i < m → OpenT P n e ((cells.drop (i * P.cellsOf e)).take (P.cellsOf e)) := by
  unfold OpenT at h; rw [ht] at h; exact h

theorem OpenT.struct2 {f0 f1 : Field} (ht : P.underlying t = some (.struct #[f0, f1])) (h : OpenT P (n + 1) t avs) : ∃ l0 l1, avs = l0 ++ l1 ∧ OpenT P n f0.type l0 ∧ OpenT P n f1.type l1 := by
  obtain ⟨L, h1, h2, h3⟩ := OpenT.struct ht h
  match L, h2 with
  | [l0, l1], _ => exact ⟨l0, l1, by simpa using h1, (h3 0 f0 l0 rfl rfl).1, (h3 1 f1 l1 rfl rfl).1⟩
theorem OpenT.struct3 {f0 f1 f2 : Field} (ht : P.underlying t = some (.struct #[f0, f1, f2])) (h : OpenT P (n + 1) t avs) : ∃ l0 l1 l2, avs = l0 ++ (l1 ++ l2) ∧ OpenT P n f0.type l0 ∧ OpenT P n f1.type l1 ∧ OpenT P n f2.type l2 := by
  obtain ⟨L, h1, h2, h3⟩ := OpenT.struct ht h
  match L, h2 with
  | [l0, l1, l2], _ => exact ⟨l0, l1, l2, by simpa using h1, (h3 0 f0 l0 rfl rfl).1, (h3 1 f1 l1 rfl rfl).1, (h3 2 f2 l2 rfl rfl).1⟩
theorem OpenT.struct5 {f0 f1 f2 f3 f4 : Field} (ht : P.underlying t = some (.struct #[f0, f1, f2, f3, f4])) (h : OpenT P (n + 1) t avs) :
    ∃ l0 l1 l2 l3 l4, avs = l0 ++ (l1 ++ (l2 ++ (l3 ++ l4))) ∧ OpenT P n f0.type l0 ∧ OpenT P n f1.type l1 ∧ OpenT P n f2.type l2 ∧ OpenT P n f3.type l3 ∧ OpenT P n f4.type l4 := by
  obtain ⟨L, h1, h2, h3⟩ := OpenT.struct ht h
  match L, h2 with
  | [l0, l1, l2, l3, l4], _ => exact ⟨l0, l1, l2, l3, l4, by simpa using h1, (h3 0 f0 l0 rfl rfl).1, (h3 1 f1 l1 rfl rfl).1, (h3 2 f2 l2 rfl rfl).1, (h3 3 f3 l3 rfl rfl).1, (h3 4 f4 l4 rfl rfl).1⟩

def unI : AV → Int
  | .base (.int _ z) => z
  | _ => 0

/-- A whole number of 64 bits. -/
def In64 (z : Int) : Prop := -9223372036854775808 ≤ z ∧ z ≤ 9223372036854775807
theorem In64.of {z : Int} (h : (Lit.int .i64 z).wf = true) : In64 z := by
  simp only [Lit.wf, IntKind.min, IntKind.max, IntKind.signed, IntKind.bits, Bool.and_eq_true, decide_eq_true_eq, if_true] at h
  unfold In64; omega

theorem small_of {m k : Nat} (hk : 0 < k) (h : m * k ≤ reachBytes) : m < 4611686018427387904 := by
  have h1 : m * 1 ≤ m * k := Nat.mul_le_mul_left _ hk
  have h2 : reachBytes = 140737488351232 - 0 := by decide
  omega

theorem OpenT.ints (ht : P.underlying t = some (.slice e)) (he : P.underlying e = some (.int .i64)) (hc : P.cellsOf e = 1) (hb : 0 < P.bytesOf e) (h : OpenT P (n + 2) t avs) :
    ∃ x l, avs = [x] ∧ IL x l ∧ l.length < 4611686018427387904 ∧ ∀ z ∈ l, In64 z := by
  obtain ⟨x, m, cells, rfl, hsv, hm, hx⟩ := OpenT.slice ht h
  rw [hc] at hsv hx
  have hcl := hsv.1
  have each : ∀ i (hi : i < cells.length), cells[i] = I (unI cells[i]) ∧ In64 (unI cells[i]) := by
    intro i hi
    obtain ⟨z, h1, h2⟩ := OpenT.int he (hx i (by omega))
    rw [Nat.mul_one, List.drop_eq_getElem_cons hi, List.take_succ_cons, List.take_zero] at h1
    have h3 : cells[i] = .base (.int .i64 z) := by simpa using h1
    rw [h3]
    exact ⟨rfl, In64.of h2⟩
  have hints : ints (cells.map unI) = cells := by
    refine List.ext_getElem (by simp [AM.ints]) fun i h1 h2 => ?_
    simp only [AM.ints, List.getElem_map]
    exact (each i h2).1.symm
  refine ⟨x, cells.map unI, rfl, ?_, ?_, ?_⟩
  · unfold IL
    rw [hints, List.length_map, hcl, Nat.mul_one]
    exact hsv
  · rw [List.length_map, hcl, Nat.mul_one]
    exact small_of hb hm
  · intro z hz
    obtain ⟨y, hy, rfl⟩ := List.mem_map.1 hz
    obtain ⟨i, hi, rfl⟩ := List.mem_iff_getElem.1 hy
    exact (each i hi).2

theorem argAV_int {k : IntKind} (ht : P.underlying t = some (.int k)) (l : List AV) : argAV P t l = l.headD .nils := by unfold argAV; rw [ht]
theorem argAV_slice (ht : P.underlying t = some (.slice e)) (l : List AV) : argAV P t l = l.headD .nils := by unfold argAV; rw [ht]
theorem argAV_struct {fs : Array Field} (ht : P.underlying t = some (.struct fs)) (l : List AV) : argAV P t l = .agg l := by unfold argAV; rw [ht]
theorem argAV_array {k : Nat} (ht : P.underlying t = some (.array k e)) (l : List AV) : argAV P t l = .agg l := by unfold argAV; rw [ht]
end

theorem AOpen.len {P : Program} {n : Nat} : ∀ {ts : List TypeId} {as : List AV}, AOpen P n ts as → as.length = ts.length
  | [], [], _ => rfl
  | t :: ts, a :: as, h => by
    unfold AOpen at h
    simp only [List.length_cons, AOpen.len h.2]
  | [], _ :: _, h => by unfold AOpen at h; exact h.elim
  | _ :: _, [], h => by unfold AOpen at h; exact h.elim
theorem AOpen.cons {P : Program} {n : Nat} {t : TypeId} {ts : List TypeId} {a : AV} {as : List AV} (h : AOpen P n (t :: ts) (a :: as)) : (∃ avs, OpenT P n t avs ∧ a = argAV P t avs) ∧ AOpen P n ts as := by
  unfold AOpen at h; exact h
end Go.AM

import Derived.Test.YtmihmgnjnedfcabBF
import Derived.Test.YtmihmgnjnedfcabBC
import Derived.Test.YtmihmgnjnedfcabBB
import Derived.Test.YtmihmgnjnedfcabBZ

section
/- Elimination on lists of numbers, and what it is as linear algebra over the field of the residues. No code is walked here. -/
set_option maxRecDepth 100000
set_option linter.unusedSimpArgs false
set_option linter.unusedVariables false
namespace Go.AM.Ytmihmgnjnedfcab
open Go Go.AM Go.FM Go.LA

/-- A field's description. -/
structure FB where
  D : Ds
  r : Fd D
def El (F : FB) : Type := {x : Int // F.D.R x}
noncomputable instance elF (F : FB) : Fld (El F) := ⟨{
  add := fun a b => ⟨F.D.add a.1 b.1, F.r.toOk.addR _ _⟩,
  mul := fun a b => ⟨F.D.mul a.1 b.1, F.r.toOk.mulR _ _⟩,
  neg := fun a => ⟨F.D.neg a.1, F.r.toOk.negR _⟩,
  zero := ⟨0, F.r.toOk.q0⟩,
  one := ⟨1, F.r.toOk.q1⟩,
  inv := fun a => ⟨invD F.D a.1, invR F.r.toOk _⟩,
  add_comm := fun a b => Subtype.ext (F.r.toOk.add_comm _ _),
  add_assoc := fun a b c => Subtype.ext (F.r.toOk.add_assoc _ _ _),
  add_zero := fun a => Subtype.ext ((F.r.toOk.add_zero _).trans (Ds.inn_of a.2)),
  add_neg := fun a => Subtype.ext (F.r.toOk.add_neg _),
  mul_comm := fun a b => Subtype.ext (F.r.toOk.mul_comm _ _),
  mul_assoc := fun a b c => Subtype.ext (F.r.toOk.mul_assoc _ _ _),
  mul_one := fun a => Subtype.ext ((F.r.toOk.mul_one _).trans (Ds.inn_of a.2)),
  mul_add := fun a b c => Subtype.ext (F.r.toOk.mul_add _ _ _),
  mul_inv := fun a h => Subtype.ext (Ytmihmgnjnedfcab.mul_inv F.r (by rw [Ds.inn_of a.2]; exact fun h0 => h (Subtype.ext h0))),
  one_ne := fun h => absurd (congrArg Subtype.val h) (show ¬ (1 : Int) = 0 by decide) }⟩

section
variable {F : FB}
def toK (F : FB) (x : Int) : El F := ⟨F.D.inn x, F.r.toOk.innR x⟩
theorem toK_add (x y : Int) : toK F (F.D.add x y) = toK F x + toK F y := Subtype.ext (by
  show F.D.inn (F.D.add x y) = F.D.add (F.D.inn x) (F.D.inn y)
  rw [F.r.toOk.inn_add, F.r.toOk.add_inn, F.r.toOk.inn_add'])
theorem toK_mul (x y : Int) : toK F (F.D.mul x y) = toK F x * toK F y := Subtype.ext (by
  show F.D.inn (F.D.mul x y) = F.D.mul (F.D.inn x) (F.D.inn y)
  rw [F.r.toOk.inn_mul, F.r.toOk.mul_inn, F.r.toOk.inn_mul'])
theorem toK_neg (x : Int) : toK F (F.D.neg x) = -toK F x := Subtype.ext (by
  show F.D.inn (F.D.neg x) = F.D.neg (F.D.inn x)
  rw [F.r.toOk.inn_neg]; unfold Ds.neg; rw [F.r.toOk.inn_inn])
theorem toK_zero : toK F 0 = 0 := Subtype.ext (Ds.inn_of F.r.toOk.q0)
theorem toK_one : toK F 1 = 1 := Subtype.ext (Ds.inn_of F.r.toOk.q1)
theorem toK_inv (x : Int) : toK F (invD F.D x) = Fld.inv (toK F x) := Subtype.ext (by
  show F.D.inn (invD F.D x) = invD F.D (F.D.inn x)
  rw [Ds.inn_of (invR F.r.toOk _)]; unfold invD; rw [F.r.toOk.inn_inn])
theorem toK_inj {x y : Int} (hx : F.D.R x) (hy : F.D.R y) (h : toK F x = toK F y) : x = y := by
  have : F.D.inn x = F.D.inn y := congrArg Subtype.val h
  rwa [Ds.inn_of hx, Ds.inn_of hy] at this
theorem toK_ne {x : Int} (hx : F.D.R x) (h : x ≠ 0) : toK F x ≠ 0 := fun h2 => h (toK_inj hx F.r.toOk.q0 (h2.trans toK_zero.symm))
theorem toK_val (a : El F) : toK F a.1 = a := Subtype.ext (Ds.inn_of a.2)

/-- A list of numbers, of rows, over the field. -/
def vc (F : FB) (l : List Int) : Nat → El F := fun j => toK F (l.getD j 0)
def mtx (F : FB) (L : List (List Int)) : Mt (El F) := fun i => vc F (L.getD i [])
end

/-- The rows are vectors of w elements. -/
def Mat (D : Ds) (w : Nat) (L : List (List Int)) : Prop := ∀ row ∈ L, row.length = w ∧ ∀ x ∈ row, D.R x

theorem getD_set {α : Type} {L : List α} {i j : Nat} {l d : α} : (L.set i l).getD j d = if j = i ∧ i < L.length then l else L.getD j d := by
  simp only [List.getD, List.getElem?_set]
  by_cases h : i = j
  · subst h
    by_cases h2 : i < L.length
    · rw [if_pos rfl, if_pos h2, if_pos ⟨rfl, h2⟩]; rfl
    · rw [if_pos rfl, if_neg h2, if_neg (by omega), List.getElem?_eq_none (by omega)]
  · rw [if_neg h, if_neg (by omega)]
theorem getD_out {α : Type} {L : List α} {i : Nat} {d : α} (h : L.length ≤ i) : L.getD i d = d := by
  simp only [List.getD, List.getElem?_eq_none h, Option.getD_none]

section
variable {D : Ds} {w : Nat} {L : List (List Int)}
theorem Mat.len (m : Mat D w L) {i : Nat} (hi : i < L.length) : (L.getD i []).length = w := (m _ (mem_getD hi)).1
theorem Mat.R (m : Mat D w L) {i : Nat} (hi : i < L.length) : ∀ x ∈ L.getD i [], D.R x := (m _ (mem_getD hi)).2
theorem Mat.get (o : D.Ok) (m : Mat D w L) (i j : Nat) : D.R ((L.getD i []).getD j 0) := by
  by_cases hi : i < L.length
  · by_cases hj : j < (L.getD i []).length
    · exact m.R hi _ (mem_getD hj)
    · rw [getD_out (by omega)]; exact o.q0
  · rw [getD_out (L := L) (by omega)]; exact o.q0
theorem Mat.set (m : Mat D w L) {i : Nat} {l : List Int} (hl : l.length = w ∧ ∀ x ∈ l, D.R x) : Mat D w (L.set i l) := fun row hr => by
  rcases List.mem_or_eq_of_mem_set hr with h | h
  · exact m row h
  · rw [h]; exact hl
end

/-! ### The steps -/

def swL (L : List (List Int)) (i k : Nat) : List (List Int) := (L.set i (L.getD k [])).set k (L.getD i [])
def scV (D : Ds) (a : Int) (l : List Int) : List Int := l.map (D.mul a)
def fnd (L : List (List Int)) (c : Nat) : Nat → Nat → Nat
  | 0, k => k
  | n + 1, k => if (L.getD k []).getD c 0 = 0 then fnd L c n (k + 1) else k
def rowC (D : Ds) (M : List (List Int)) (c at' k : Nat) : List (List Int) :=
  if k ≠ at' ∧ (M.getD k []).getD c 0 ≠ 0 then M.set k (addV D (M.getD k []) (D.neg ((M.getD k []).getD c 0)) (M.getD at' [])) else M
def clrL (D : Ds) (L : List (List Int)) (c at' : Nat) : Nat → List (List Int)
  | 0 => L
  | k + 1 => rowC D (clrL D L c at' k) c at' k
noncomputable def pvt (D : Ds) (L : List (List Int)) (at' c : Nat) : List (List Int) :=
  if (L.getD at' []).getD c 0 ≠ 1 then L.set at' (scV D (invD D ((L.getD at' []).getD c 0)) (L.getD at' [])) else L
structure ES where
  L : List (List Int)
  pv : List Nat
  det : Int
noncomputable def est (D : Ds) (c : Nat) (s : ES) : ES :=
  if s.pv.length < s.L.length ∧ fnd s.L c (s.L.length - s.pv.length) s.pv.length < s.L.length then
    ⟨clrL D (pvt D (swL s.L s.pv.length (fnd s.L c (s.L.length - s.pv.length) s.pv.length)) s.pv.length c) c s.pv.length s.L.length, s.pv ++ [c],
      D.mul (if fnd s.L c (s.L.length - s.pv.length) s.pv.length ≠ s.pv.length then D.neg s.det else s.det) (((swL s.L s.pv.length (fnd s.L c (s.L.length - s.pv.length) s.pv.length)).getD s.pv.length []).getD c 0)⟩
  else s
noncomputable def elim (D : Ds) (L : List (List Int)) : Nat → ES
  | 0 => ⟨L, [], 1⟩
  | c + 1 => est D c (elim D L c)

theorem swL_len (L : List (List Int)) (i k : Nat) : (swL L i k).length = L.length := by simp [swL]
theorem swL_get {L : List (List Int)} {i k : Nat} (hi : i < L.length) (hk : k < L.length) (a : Nat) : (swL L i k).getD a [] = if a = k then L.getD i [] else if a = i then L.getD k [] else L.getD a [] := by
  unfold swL
  rw [getD_set, List.length_set, getD_set]
  by_cases h : a = k
  · rw [if_pos ⟨h, hk⟩, if_pos h]
  · rw [if_neg (by omega), if_neg h]
    by_cases h2 : a = i
    · rw [if_pos ⟨h2, hi⟩, if_pos h2]
    · rw [if_neg (by omega), if_neg h2]
theorem set_getD_self {α : Type} {L : List α} {i : Nat} {d : α} : L.set i (L.getD i d) = L := by
  refine List.ext_getElem (by simp) fun j h1 h2 => ?_
  rw [List.getElem_set]
  split
  · rename_i h; subst h; simp [List.getD, h2]
  · rfl
theorem swL_self (L : List (List Int)) (i : Nat) : swL L i i = L := by
  unfold swL; rw [set_getD_self, set_getD_self]
theorem fnd_spec {L : List (List Int)} {c : Nat} : ∀ (n k : Nat), k ≤ fnd L c n k ∧ fnd L c n k ≤ k + n ∧ (∀ i, k ≤ i → i < fnd L c n k → (L.getD i []).getD c 0 = 0) ∧ (fnd L c n k < k + n → (L.getD (fnd L c n k) []).getD c 0 ≠ 0)
  | 0, k => by simp only [fnd]; exact ⟨by omega, by omega, fun i h1 h2 => by omega, fun h => by omega⟩
  | n + 1, k => by
    simp only [fnd]
    by_cases h : (L.getD k []).getD c 0 = 0
    · rw [if_pos h]
      obtain ⟨h1, h2, h3, h4⟩ := fnd_spec (L := L) (c := c) n (k + 1)
      refine ⟨by omega, by omega, fun i hi hl => ?_, fun hl => h4 (by omega)⟩
      by_cases e : i = k
      · rw [e]; exact h
      · exact h3 i (by omega) hl
    · rw [if_neg h]
      exact ⟨by omega, by omega, fun i h1 h2 => by omega, fun _ => h⟩
theorem rowC_len (D : Ds) (M : List (List Int)) (c at' k : Nat) : (rowC D M c at' k).length = M.length := by unfold rowC; split <;> simp
theorem clrL_len (D : Ds) (L : List (List Int)) (c at' : Nat) : ∀ k, (clrL D L c at' k).length = L.length
  | 0 => rfl
  | k + 1 => by simp only [clrL]; rw [rowC_len, clrL_len]
theorem pvt_len (D : Ds) (L : List (List Int)) (at' c : Nat) : (pvt D L at' c).length = L.length := by unfold pvt; split <;> simp
theorem est_len (D : Ds) (c : Nat) (s : ES) : (est D c s).L.length = s.L.length := by
  unfold est; split
  · simp only [clrL_len, pvt_len, swL_len]
  · rfl
theorem elim_len (D : Ds) (L : List (List Int)) : ∀ c, (elim D L c).L.length = L.length
  | 0 => rfl
  | c + 1 => by simp only [elim]; rw [est_len, elim_len]

section
variable {D : Ds} {w : Nat} {L : List (List Int)}
theorem addV_R (o : D.Ok) {v u : List Int} (hv : ∀ x ∈ v, D.R x) (a : Int) : ∀ x ∈ addV D v a u, D.R x := fun x hx => by
  unfold addV at hx
  obtain ⟨i, hi, rfl⟩ := List.mem_map.1 hx
  split
  · exact o.addR _ _
  · exact hv _ (mem_getD (List.mem_range.1 hi))
theorem scV_R (o : D.Ok) (a : Int) (l : List Int) : ∀ x ∈ scV D a l, D.R x := fun x hx => by
  obtain ⟨y, _, rfl⟩ := List.mem_map.1 hx
  exact o.mulR _ _
theorem scV_len (D : Ds) (a : Int) (l : List Int) : (scV D a l).length = l.length := by simp [scV]
theorem Mat.sw (m : Mat D w L) {i k : Nat} (hi : i < L.length) (hk : k < L.length) : Mat D w (swL L i k) := by
  unfold swL
  exact (m.set ⟨m.len hk, m.R hk⟩).set ⟨m.len hi, m.R hi⟩
theorem Mat.rowC (o : D.Ok) (m : Mat D w L) (c at' k : Nat) (hk : k < L.length) : Mat D w (rowC D L c at' k) := by
  unfold Ytmihmgnjnedfcab.rowC; split
  · exact m.set ⟨by rw [addV_len]; exact m.len hk, addV_R o (m.R hk) _⟩
  · exact m
theorem Mat.clr (o : D.Ok) (m : Mat D w L) (c at' : Nat) : ∀ k, k ≤ L.length → Mat D w (clrL D L c at' k)
  | 0, _ => m
  | k + 1, h => by simp only [clrL]; exact (m.clr o c at' k (by omega)).rowC o c at' k (by rw [clrL_len]; omega)
theorem Mat.pvt (o : D.Ok) (m : Mat D w L) {at' : Nat} (ha : at' < L.length) (c : Nat) : Mat D w (pvt D L at' c) := by
  unfold Ytmihmgnjnedfcab.pvt; split
  · exact m.set ⟨by rw [scV_len]; exact m.len ha, scV_R o _ _⟩
  · exact m
theorem Mat.est (o : D.Ok) {s : ES} (m : Mat D w s.L) (c : Nat) : Mat D w (est D c s).L := by
  unfold Ytmihmgnjnedfcab.est; split
  · rename_i h
    refine Mat.clr o (Mat.pvt o (m.sw h.1 h.2) (by rw [swL_len]; exact h.1) c) _ _ _ ?_
    rw [pvt_len, swL_len]; exact Nat.le_refl _
  · exact m
theorem Mat.elim (o : D.Ok) (m : Mat D w L) : ∀ c, Mat D w (elim D L c).L
  | 0 => m
  | c + 1 => (m.elim o c).est o c
theorem est_det (o : D.Ok) {s : ES} (h : D.R s.det) (c : Nat) : D.R (est D c s).det := by
  unfold est; split
  · exact o.mulR _ _
  · exact h
theorem elim_det (o : D.Ok) (L : List (List Int)) : ∀ c, D.R (elim D L c).det
  | 0 => o.q1
  | c + 1 => est_det o (elim_det o L c) c
end

/-! ### As linear algebra -/

section
variable {F : FB} {w : Nat} {L : List (List Int)}

theorem vc_addV {v u : List Int} (h : u.length ≤ v.length) (a : Int) (j : Nat) : vc F (addV F.D v a u) j = vc F v j + toK F a * vc F u j := by
  unfold vc
  by_cases hj : j < v.length
  · rw [addV_get hj]
    split
    · rw [toK_add, toK_mul]
    · rename_i h0
      have : u.getD j 0 = 0 := Classical.byContradiction h0
      rw [this, toK_zero, LA.mul_zero, add_zero]
  · rw [getD_out (by rw [addV_len]; omega), getD_out (L := v) (by omega), getD_out (L := u) (by omega), toK_zero, LA.mul_zero, add_zero]
theorem vc_scV (a : Int) (l : List Int) (j : Nat) : vc F (scV F.D a l) j = toK F a * vc F l j := by
  unfold vc scV
  by_cases hj : j < l.length
  · rw [map_getD' (F.D.mul a) l j 0 0 hj, toK_mul]
  · rw [getD_out (by simp; omega), getD_out (L := l) (by omega), toK_zero, LA.mul_zero]
theorem mtx_set {i : Nat} {l : List Int} (hi : i < L.length) (a b : Nat) : mtx F (L.set i l) a b = if a = i then vc F l b else mtx F L a b := by
  unfold mtx
  rw [getD_set]
  by_cases h : a = i
  · rw [if_pos ⟨h, hi⟩, if_pos h]
  · rw [if_neg (by omega), if_neg h]
theorem mtx_sw {i k : Nat} (hi : i < L.length) (hk : k < L.length) (a b : Nat) : mtx F (swL L i k) a b = swp (mtx F L) i k a b := by
  unfold mtx swp swapR
  rw [swL_get hi hk]
  by_cases h : a = k
  · by_cases h2 : a = i
    · rw [if_pos h, if_pos h2, show k = i by omega]
    · rw [if_pos h, if_neg h2, if_pos h]
  · rw [if_neg h]
    by_cases h2 : a = i
    · rw [if_pos h2, if_pos h2]
    · rw [if_neg h2, if_neg h2, if_neg h]
theorem mtx_pvt (m : Mat F.D w L) {at' c : Nat} (ha : at' < L.length) (a b : Nat) : mtx F (pvt F.D L at' c) a b = piv (mtx F L) at' c a b := by
  have e : mtx F L at' c = toK F ((L.getD at' []).getD c 0) := rfl
  unfold piv scaleR pvt
  rw [e]
  split
  · rw [mtx_set ha, vc_scV, toK_inv]
    rfl
  · rename_i h
    have h1 : (L.getD at' []).getD c 0 = 1 := Classical.byContradiction h
    rw [h1, toK_one, inv_one]
    split
    · rename_i h2; rw [one_mul, h2]
    · rfl
theorem mtx_clr (m : Mat F.D w L) {at' c : Nat} (ha : at' < L.length) : ∀ k, k ≤ L.length → ∀ a b, mtx F (clrL F.D L c at' k) a b = clr (mtx F L) at' c k a b
  | 0, _, a, b => by simp only [clrL]; unfold clr; rw [if_neg (by omega)]
  | k + 1, hk, a, b => by
    have ih := mtx_clr m (c := c) ha k (by omega)
    have mm := m.clr F.r.toOk c at' k (by omega)
    have hl := clrL_len F.D L c at' k
    simp only [clrL]
    have ek : ∀ b, mtx F (clrL F.D L c at' k) k b = mtx F L k b := fun b => by rw [ih]; unfold clr; rw [if_neg (by omega)]
    have ea : ∀ b, mtx F (clrL F.D L c at' k) at' b = mtx F L at' b := fun b => by rw [ih]; unfold clr; rw [if_neg (by omega)]
    have e1 : toK F (((clrL F.D L c at' k).getD k []).getD c 0) = mtx F L k c := ek c
    generalize clrL F.D L c at' k = M at *
    unfold rowC
    by_cases h : k ≠ at' ∧ (M.getD k []).getD c 0 ≠ 0
    · rw [if_pos h, mtx_set (by omega)]
      by_cases hak : a = k
      · subst hak
        rw [if_pos rfl, vc_addV (by rw [mm.len (by omega), mm.len (by omega)]; exact Nat.le_refl _), toK_neg, e1]
        unfold clr
        rw [if_pos (by omega)]
        have e2 := ek b
        have e3 := ea b
        unfold mtx at e2 e3 ⊢
        rw [e2, e3]
      · rw [if_neg hak, ih]
        unfold clr
        by_cases h1 : a < k ∧ a ≠ at'
        · rw [if_pos h1, if_pos (by omega)]
        · rw [if_neg h1, if_neg (by omega)]
    · rw [if_neg h, ih]
      unfold clr
      by_cases hak : a = k
      · subst hak
        rw [if_neg (by omega)]
        by_cases h1 : a = at'
        · rw [if_neg (by omega)]
        · have h0 : (M.getD a []).getD c 0 = 0 := Classical.byContradiction fun hh => h ⟨h1, hh⟩
          rw [h0, toK_zero] at e1
          rw [if_pos (by omega), ← e1, neg_zero, zero_mul, add_zero]
      · by_cases h1 : a < k ∧ a ≠ at'
        · rw [if_pos h1, if_pos (by omega)]
        · rw [if_neg h1, if_neg (by omega)]

/-- What is said of a state of the elimination. -/
structure ElS (F : FB) (w c : Nat) (L : List (List Int)) (s : ES) : Prop where
  mat : Mat F.D w s.L
  len : s.L.length = L.length
  lt : ∀ x ∈ s.pv, x < c
  op : ∃ d, RE L.length (mtx F L) (mtx F s.L) d ∧ d * toK F s.det = 1
  red : Rref L.length c s.pv.length (fun i => s.pv.getD i 0) (mtx F s.L)

theorem ElS.step {c : Nat} {s : ES} (h : ElS F w c L s) : ElS F w (c + 1) L (est F.D c s) := by
  obtain ⟨h1, h2, h3, ⟨d, h4, h5⟩, h6⟩ := h
  have hm := h1.est F.r.toOk c
  have hn := est_len F.D c s
  obtain ⟨f1, f2, f3, f4⟩ := fnd_spec (L := s.L) (c := c) (s.L.length - s.pv.length) s.pv.length
  have hle := h6.le
  unfold est at hm hn ⊢
  by_cases hc : s.pv.length < s.L.length ∧ fnd s.L c (s.L.length - s.pv.length) s.pv.length < s.L.length
  · rw [if_pos hc] at hm hn ⊢
    generalize fnd s.L c (s.L.length - s.pv.length) s.pv.length = k at *
    have hx := f4 (by omega)
    have hK : mtx F s.L k c ≠ 0 := toK_ne (h1.get F.r.toOk k c) hx
    have hsw := h1.sw hc.1 hc.2
    have eS : swL s.L s.pv.length k = swL s.L s.pv.length k := rfl
    have e1 : ∀ a b, mtx F (clrL F.D (pvt F.D (swL s.L s.pv.length k) s.pv.length c) c s.pv.length s.L.length) a b = stp L.length (mtx F s.L) s.pv.length k c a b := fun a b => by
      rw [mtx_clr (hsw.pvt F.r.toOk (by rw [swL_len]; omega) c) (by rw [pvt_len, swL_len]; omega) _ (by rw [pvt_len, swL_len]; omega)]
      have e2 : mtx F (pvt F.D (swL s.L s.pv.length k) s.pv.length c) = piv (swp (mtx F s.L) s.pv.length k) s.pv.length c := by
        funext a b
        rw [mtx_pvt hsw (by rw [swL_len]; omega)]
        have : mtx F (swL s.L s.pv.length k) = swp (mtx F s.L) s.pv.length k := by
          funext a b; exact mtx_sw hc.1 hc.2 a b
        rw [this]
      rw [e2, ← h2]
      rfl
    have e2 : mtx F (clrL F.D (pvt F.D (swL s.L s.pv.length k) s.pv.length c) c s.pv.length s.L.length) = stp L.length (mtx F s.L) s.pv.length k c := by
      funext a b; exact e1 a b
    refine ⟨hm, by omega, fun x hx => ?_, ⟨(Fld.inv (mtx F s.L k c) * (if k = s.pv.length then 1 else -1)) * d, ?_, ?_⟩, ?_⟩
    · rcases List.mem_append.1 hx with hx | hx
      · have := h3 x hx; omega
      · rw [List.mem_singleton] at hx; omega
    · exact h4.trans (e2 ▸ stp_RE f1 (by omega) hK)
    · simp only
      rw [toK_mul, swL_get hc.1 hc.2]
      have ex : toK F ((if s.pv.length = k then s.L.getD s.pv.length [] else if s.pv.length = s.pv.length then s.L.getD k [] else s.L.getD s.pv.length []).getD c 0) = mtx F s.L k c := by
        by_cases hek : s.pv.length = k
        · rw [if_pos hek, hek]; rfl
        · rw [if_neg hek, if_pos rfl]; rfl
      rw [ex]
      generalize mtx F s.L k c = X at *
      have es : toK F (if k ≠ s.pv.length then F.D.neg s.det else s.det) = (if k = s.pv.length then 1 else -1) * toK F s.det := by
        by_cases hek : k = s.pv.length
        · rw [if_neg (by simpa using hek), if_pos hek, one_mul]
        · rw [if_pos hek, if_neg hek, toK_neg, neg_one_mul]
      rw [es]
      have eq : ((if k = s.pv.length then 1 else -1) * (if k = s.pv.length then 1 else -1) : El F) = 1 := by
        by_cases hek : k = s.pv.length
        · rw [if_pos hek, one_mul]
        · rw [if_neg hek, neg_one_mul, neg_neg]
      generalize (if k = s.pv.length then 1 else -1 : El F) = u at *
      rw [show Fld.inv X * u * d * (u * toK F s.det * X) = (Fld.inv X * X) * (u * u) * (d * toK F s.det) by ac_rfl, h5, eq, inv_mul hK, one_mul, one_mul]
    · simp only
      rw [List.length_append, List.length_singleton, e2]
      refine h6.step f1 (by omega) hK (fun i hi => ?_) ?_
      · simp only [List.getD, List.getElem?_append_left hi]
      · simp [List.getD]
  · rw [if_neg hc] at hm hn ⊢
    refine ⟨hm, by omega, fun x hx => by have := h3 x hx; omega, ⟨d, h4, h5⟩, h6.skip fun i hi hin => ?_⟩
    show toK F ((s.L.getD i []).getD c 0) = 0
    have hk : ¬ fnd s.L c (s.L.length - s.pv.length) s.pv.length < s.L.length := fun hh => hc ⟨by omega, hh⟩
    rw [f3 i hi (by omega), toK_zero]

theorem elim_spec (m : Mat F.D w L) : ∀ c, ElS F w c L (elim F.D L c)
  | 0 => ⟨m, rfl, (fun x hx => by cases hx), ⟨1, .refl _, by rw [one_mul]; exact toK_one⟩, Rref.start _ _ _⟩
  | c + 1 => (elim_spec m c).step
end

/-! ### Parts of the rows -/

section
variable {D : Ds} {w : Nat}
def cutL (f : List Int → List Int) (L : List (List Int)) : List (List Int) := L.map f
theorem cutL_get {f : List Int → List Int} (hf : f [] = []) (L : List (List Int)) (i : Nat) : (cutL f L).getD i [] = f (L.getD i []) := by
  by_cases hi : i < L.length
  · exact map_getD' f L i [] [] hi
  · rw [getD_out (by simp [cutL]; omega), getD_out (by omega), hf]
theorem cutL_set (f : List Int → List Int) (L : List (List Int)) (i : Nat) (l : List Int) : cutL f (L.set i l) = (cutL f L).set i (f l) := by
  simp [cutL, List.map_set]
theorem cutL_sw {f : List Int → List Int} (hf : f [] = []) (L : List (List Int)) (i k : Nat) : cutL f (swL L i k) = swL (cutL f L) i k := by
  unfold swL
  rw [cutL_set, cutL_set, cutL_get hf, cutL_get hf]
theorem addV_take (v : List Int) (a : Int) (u : List Int) : (addV D v a u).take w = addV D (v.take w) a (u.take w) := by
  refine List.ext_getElem (by simp [addV_len]) fun j h1 h2 => ?_
  simp only [List.length_take, addV_len] at h1 h2
  have e1 : ((addV D v a u).take w)[j] = (addV D v a u).getD j 0 := by
    simp [List.getD, show j < (addV D v a u).length by rw [addV_len]; omega]
  have e2 : (addV D (v.take w) a (u.take w))[j] = (addV D (v.take w) a (u.take w)).getD j 0 := by
    simp [List.getD, show j < (addV D (v.take w) a (u.take w)).length by rw [addV_len, List.length_take]; omega]
  rw [e1, e2, addV_get (by omega), addV_get (by rw [List.length_take]; omega)]
  have t : ∀ l : List Int, (l.take w).getD j 0 = l.getD j 0 := fun l => by simp [List.getD, List.getElem?_take, show j < w by omega]
  rw [t, t]
theorem addV_drop (v : List Int) (a : Int) (u : List Int) : (addV D v a u).drop w = addV D (v.drop w) a (u.drop w) := by
  refine List.ext_getElem (by simp [addV_len]) fun j h1 h2 => ?_
  simp only [List.length_drop, addV_len] at h1 h2
  have e1 : ((addV D v a u).drop w)[j]'(by simp [addV_len]; omega) = (addV D v a u).getD (w + j) 0 := by
    simp [List.getD, show w + j < (addV D v a u).length by rw [addV_len]; omega]
  have e2 : (addV D (v.drop w) a (u.drop w))[j]'(by simp [addV_len]; omega) = (addV D (v.drop w) a (u.drop w)).getD j 0 := by
    simp [List.getD, show j < (addV D (v.drop w) a (u.drop w)).length by rw [addV_len, List.length_drop]; omega]
  rw [e1, e2, addV_get (by omega), addV_get (by rw [List.length_drop]; omega)]
  have t : ∀ l : List Int, (l.drop w).getD j 0 = l.getD (w + j) 0 := fun l => by simp [List.getD, List.getElem?_drop]
  rw [t, t]
theorem scV_take (a : Int) (l : List Int) : (scV D a l).take w = scV D a (l.take w) := by simp [scV, List.map_take]
theorem scV_drop (a : Int) (l : List Int) : (scV D a l).drop w = scV D a (l.drop w) := by simp [scV, List.map_drop]
theorem take_get {l : List Int} {c : Nat} (h : c < w) : (l.take w).getD c 0 = l.getD c 0 := by simp [List.getD, List.getElem?_take, h]

abbrev tkL (w : Nat) (L : List (List Int)) := cutL (List.take w) L
abbrev dpL (w : Nat) (L : List (List Int)) := cutL (List.drop w) L
theorem tk_nil (w : Nat) : ([] : List Int).take w = [] := List.take_nil
theorem dp_nil (w : Nat) : ([] : List Int).drop w = [] := List.drop_nil
theorem tkL_rowC {c : Nat} (hc : c < w) (M : List (List Int)) (at' k : Nat) : tkL w (rowC D M c at' k) = rowC D (tkL w M) c at' k := by
  unfold rowC
  rw [cutL_get (tk_nil w), cutL_get (tk_nil w), take_get hc]
  split
  · unfold tkL; rw [cutL_set, addV_take]
  · rfl
theorem tkL_clr {c : Nat} (hc : c < w) (L : List (List Int)) (at' : Nat) : ∀ k, tkL w (clrL D L c at' k) = clrL D (tkL w L) c at' k
  | 0 => rfl
  | k + 1 => by simp only [clrL]; rw [tkL_rowC hc, tkL_clr hc]
theorem tkL_pvt {c : Nat} (hc : c < w) (L : List (List Int)) (at' : Nat) : tkL w (pvt D L at' c) = pvt D (tkL w L) at' c := by
  unfold pvt
  rw [cutL_get (tk_nil w), take_get hc]
  split
  · unfold tkL; rw [cutL_set, scV_take]
  · rfl
theorem tkL_fnd {c : Nat} (hc : c < w) (L : List (List Int)) : ∀ n k, fnd (tkL w L) c n k = fnd L c n k
  | 0, k => rfl
  | n + 1, k => by simp only [fnd]; rw [cutL_get (tk_nil w), take_get hc, tkL_fnd hc]
def ES.tk (w : Nat) (s : ES) : ES := ⟨tkL w s.L, s.pv, s.det⟩
theorem est_tk {c : Nat} (hc : c < w) (s : ES) : est D c (s.tk w) = (est D c s).tk w := by
  unfold est ES.tk
  have hl : (tkL w s.L).length = s.L.length := by simp [cutL]
  simp only [hl, tkL_fnd hc]
  split
  · simp only [tkL_clr hc, tkL_pvt hc, cutL_sw (tk_nil w)]
    rw [← cutL_sw (tk_nil w), cutL_get (tk_nil w), take_get hc]
  · rfl
theorem elim_tk (L : List (List Int)) : ∀ c, c ≤ w → elim D (tkL w L) c = (elim D L c).tk w
  | 0, _ => rfl
  | c + 1, h => by simp only [elim]; rw [elim_tk L c (by omega), est_tk (by omega)]
end
end Go.AM.Ytmihmgnjnedfcab
end

section
/- Codes of the program, as the conversion gives them. -/
set_option maxRecDepth 100000
namespace Go.AM.Ytmihmgnjnedfcab
open Go Go.AM
-- matrix_eliminate
abbrev c_matrix_eliminateL1_1 : SC := (.block 3 (.reg [o 50 (.ld (.t 15) 1 false), o 51 (.bin .add (.t 50) (ki 1)), os (.st (.t 15) (.t 51) 1)]))
abbrev c_matrix_eliminateL1_0 : SC := .seq (.seq (.reg [o 36 (.ld (.t 15) 1 false), o 37 (.ld (.t 5) 1 false), o 38 (.len (.t 37)), o 39 (.bin .lss (.t 36) (.t 38)), o 40 (.mv (.t 39)), og 40 true 0 41 (.ld (.t 5) 1 false), og 40 true 0 42 (.ld (.t 15) 1 false), og 40 true 0 43 (.iadr (.t 41) (.t 42) 1), og 40 true 0 44 (.ld (.t 43) 1 false), og 40 true 0 45 (.mv (.t 13)), og 40 true 0 46 (.iadr (.t 44) (.t 45) 1), og 40 true 0 47 (.ld (.t 46) 1 false), og 40 true 0 48 (.bin .eql (.t 47) (ki 0)), o 49 (.pick (.t 40) (.t 48) (kb false))]) (.cond (.t 49) .skip (.exit 2))) c_matrix_eliminateL1_1
abbrev c_matrix_eliminateB5_3 : SC := (.cond (.t 114) (.reg [o 115 (.mv (.t 11)), o 116 (.mkf 112 [] [.t 4, .t 18, .t 19, .t 14]), o 117 (.call (.t 115) [.t 116])]) .skip)
abbrev c_matrix_eliminateB5_2 : SC := .seq (.reg [o 108 (.ld (.t 18) 1 false), o 109 (.ld (.t 14) 1 false), o 110 (.bin .neq (.t 108) (.t 109)), o 111 (.mv (.t 110)), og 111 true 0 112 (.ld (.t 19) 1 false), og 111 true 0 113 (.bin .neq (.t 112) (ki 0)), o 114 (.pick (.t 111) (.t 113) (kb false))]) c_matrix_eliminateB5_3
abbrev c_matrix_eliminateB5_1 : SC := .seq (.reg [o 101 (.ld (.t 5) 1 false), o 102 (.ld (.t 18) 1 false), o 103 (.iadr (.t 101) (.t 102) 1), o 104 (.ld (.t 103) 1 false), o 105 (.mv (.t 13)), o 106 (.iadr (.t 104) (.t 105) 1), o 107 (.ld (.t 106) 1 false), o 19 (.new [I 0]), os (.st (.t 19) (.t 107) 1)]) c_matrix_eliminateB5_2
abbrev c_matrix_eliminateB5_0 : SC := .seq (.reg [o 100 (.mv (.t 98)), o 18 (.new [I 0]), os (.st (.t 18) (.t 100) 1)]) c_matrix_eliminateB5_1
abbrev c_matrix_eliminateL2_3 : SC := (.reg [o 118 (.bin .add (.t 98) (ki 1)), o 98 (.mv (.t 118))])
abbrev c_matrix_eliminateL2_2 : SC := .seq (.block 5 c_matrix_eliminateB5_0) c_matrix_eliminateL2_3
abbrev c_matrix_eliminateL2_1 : SC := .seq (.cond (.t 99) .skip (.exit 4)) c_matrix_eliminateL2_2
abbrev c_matrix_eliminateL2_0 : SC := .seq (.reg [o 99 (.bin .lss (.t 98) (.t 97))]) c_matrix_eliminateL2_1
abbrev c_matrix_eliminateB1_8 : SC := (.reg [o 119 (.mv (.t 12)), o 120 (.mv (.t 13)), o 121 (.mkl 1 1 [I 0] [(0, (1, .t 120))]), o 122 (.app (.t 119) (.t 121) 1), o 12 (.mv (.t 122))])
abbrev c_matrix_eliminateB1_7 : SC := .seq (.seq (.reg [o 96 (.ld (.t 5) 1 false), o 97 (.len (.t 96)), o 98 (.mv (ki 0))]) (.block 4 (.loop c_matrix_eliminateL2_0))) c_matrix_eliminateB1_8
abbrev c_matrix_eliminateB1_6 : SC := .seq (.seq (.reg [o 81 (.mv (.t 13)), o 76 (.ld (.t 4) 1 false), o 77 (.ld (.t 5) 1 false), o 78 (.ld (.t 14) 1 false), o 79 (.iadr (.t 77) (.t 78) 1), o 80 (.ld (.t 79) 1 false), o 82 (.iadr (.t 80) (.t 81) 1), o 83 (.ld (.t 82) 1 false), om 1 84 (.call (.f n_field_GF_Inv) [.t 76, .t 83]), o 75 (.mv (.t 84)), o 85 (.ext (.t 75) 0), o 86 (.ext (.t 75) 1), o 16 (.new [I 0]), os (.st (.t 16) (.t 85) 1), o 17 (.mv (.t 86))]) (.seq (.reg [o 87 (.mv (.t 17)), o 88 (.bin .eql (.t 87) (ki 0)), o 89 (.mv (.t 88)), og 89 true 0 90 (.ld (.t 16) 1 false), og 89 true 0 91 (.bin .neq (.t 90) (ki 1)), o 92 (.pick (.t 89) (.t 91) (kb false))]) (.cond (.t 92) (.reg [o 93 (.mv (.t 11)), o 94 (.mkf 111 [] [.t 4, .t 16, .t 14]), o 95 (.call (.t 93) [.t 94])]) .skip))) c_matrix_eliminateB1_7
abbrev c_matrix_eliminateB1_5 : SC := .seq (.reg [o 66 (.mv (.t 10)), o 71 (.mv (.t 13)), o 65 (.ld (.t 4) 1 false), o 67 (.ld (.t 5) 1 false), o 68 (.ld (.t 14) 1 false), o 69 (.iadr (.t 67) (.t 68) 1), o 70 (.ld (.t 69) 1 false), o 72 (.iadr (.t 70) (.t 71) 1), o 73 (.ld (.t 72) 1 false), om 1 74 (.call (.f n_field_GF_Mul) [.t 65, .t 66, .t 73]), o 10 (.mv (.t 74))]) c_matrix_eliminateB1_6
abbrev c_matrix_eliminateB1_4 : SC := .seq (.seq (.reg [o 56 (.ld (.t 15) 1 false), o 57 (.ld (.t 14) 1 false), o 58 (.bin .neq (.t 56) (.t 57))]) (.cond (.t 58) (.seq (.reg [o 59 (.mv (.t 11)), o 60 (.mkf 108 [] [.t 15, .t 14]), o 61 (.call (.t 59) [.t 60])]) (.reg [o 62 (.ld (.t 4) 1 false), o 63 (.mv (.t 10)), o 64 (.call (.f n_field_GF_Neg) [.t 62, .t 63]), o 10 (.mv (.t 64))])) .skip)) c_matrix_eliminateB1_5
abbrev c_matrix_eliminateB1_3 : SC := .seq (.seq (.reg [o 52 (.ld (.t 15) 1 false), o 53 (.ld (.t 5) 1 false), o 54 (.len (.t 53)), o 55 (.bin .eql (.t 52) (.t 54))]) (.cond (.t 55) (.exit 1) .skip)) c_matrix_eliminateB1_4
abbrev c_matrix_eliminateB1_2 : SC := .seq (.block 2 (.loop c_matrix_eliminateL1_0)) c_matrix_eliminateB1_3
abbrev c_matrix_eliminateB1_1 : SC := .seq (.reg [o 35 (.ld (.t 14) 1 false), o 15 (.new [I 0]), os (.st (.t 15) (.t 35) 1)]) c_matrix_eliminateB1_2
abbrev c_matrix_eliminateB1_0 : SC := .seq (.reg [o 33 (.mv (.t 12)), o 34 (.len (.t 33)), o 14 (.new [I 0]), os (.st (.t 14) (.t 34) 1)]) c_matrix_eliminateB1_1
abbrev c_matrix_eliminateL0_2 : SC := (.reg [o 31 (.mv (.t 13)), o 32 (.bin .add (.t 31) (ki 1)), o 13 (.mv (.t 32))])
abbrev c_matrix_eliminateL0_1 : SC := .seq (.block 1 c_matrix_eliminateB1_0) c_matrix_eliminateL0_2
abbrev c_matrix_eliminateL0_0 : SC := .seq (.seq (.reg [o 21 (.mv (.t 13)), o 22 (.mv (.t 2)), o 23 (.bin .lss (.t 21) (.t 22)), o 24 (.mv (.t 23)), og 24 true 0 25 (.mv (.t 12)), og 24 true 0 26 (.len (.t 25)), og 24 true 0 27 (.ld (.t 5) 1 false), og 24 true 0 28 (.len (.t 27)), og 24 true 0 29 (.bin .lss (.t 26) (.t 28)), o 30 (.pick (.t 24) (.t 29) (kb false))]) (.cond (.t 30) .skip (.exit 0))) c_matrix_eliminateL0_1
abbrev c_matrix_eliminate_6 : SC := .ret
abbrev c_matrix_eliminate_5 : SC := .seq (.reg [o 123 (.mv (.t 12)), o 124 (.mv (.t 10)), o 8 (.mv (.t 123)), o 9 (.mv (.t 124))]) c_matrix_eliminate_6
abbrev c_matrix_eliminate_4 : SC := .seq (.seq (.reg [o 13 (.mv (ki 0))]) (.block 0 (.loop c_matrix_eliminateL0_0))) c_matrix_eliminate_5
abbrev c_matrix_eliminate_3 : SC := .seq (.reg [o 12 (.mv (.k .nils))]) c_matrix_eliminate_4
abbrev c_matrix_eliminate_2 : SC := .seq (.reg [o 20 (.mkf 107 [] [.t 5, .t 7]), o 11 (.mv (.t 20))]) c_matrix_eliminate_3
abbrev c_matrix_eliminate_1 : SC := .seq (.reg [o 10 (.mv (ki 1))]) c_matrix_eliminate_2
abbrev c_matrix_eliminate_0 : SC := .seq (.reg [o 4 (.box (.t 0)), o 5 (.box (.t 1)), o 7 (.box (.t 3)), o 8 (.mv (.k .nils)), o 9 (.mv (ki 0))]) c_matrix_eliminate_1
theorem cf_matrix_eliminate : cfun Go.Proofs.Try.prog md n_matrix_eliminate = some ⟨4, 125, c_matrix_eliminate_0.erase, [.t 8, .t 9]⟩ := by kernel_rfl
-- matrix_eliminate_1
abbrev c_matrix_eliminate_1_2 : SC := (.cond (.t 9) (.reg [o 10 (.mv (.t 0)), o 11 (.ld (.t 2) 1 false), o 12 (.call (.t 10) [.t 11])]) .skip)
abbrev c_matrix_eliminate_1_1 : SC := .seq (.reg [o 7 (.ld (.t 2) 1 false), o 8 (.len (.t 7)), o 9 (.bin .gtr (.t 8) (ki 0))]) c_matrix_eliminate_1_2
abbrev c_matrix_eliminate_1_0 : SC := .seq (.reg [o 4 (.mv (.t 0)), o 5 (.ld (.t 1) 1 false), o 6 (.call (.t 4) [.t 5])]) c_matrix_eliminate_1_1
theorem cf_matrix_eliminate_1 : cfun Go.Proofs.Try.prog md n_matrix_eliminate_1 = some ⟨3, 13, c_matrix_eliminate_1_0.erase, []⟩ := by kernel_rfl
-- matrix_eliminate_2
abbrev c_matrix_eliminate_2_0 : SC := (.reg [o 4 (.mv (.t 0)), o 6 (.mv (.t 0)), o 8 (.mv (.t 0)), o 12 (.mv (.t 0)), o 5 (.ld (.t 2) 1 false), o 7 (.ld (.t 1) 1 false), o 9 (.ld (.t 1) 1 false), o 10 (.iadr (.t 8) (.t 9) 1), o 11 (.ld (.t 10) 1 false), o 13 (.ld (.t 2) 1 false), o 14 (.iadr (.t 12) (.t 13) 1), o 15 (.ld (.t 14) 1 false), o 16 (.iadr (.t 4) (.t 5) 1), ⟨none, none, .st (.t 16) (.t 11) 1, 0, [(1, 1)]⟩, o 17 (.iadr (.t 6) (.t 7) 1), os (.st (.t 17) (.t 15) 1)])
theorem cf_matrix_eliminate_2 : cfun Go.Proofs.Try.prog md n_matrix_eliminate_2 = some ⟨3, 18, c_matrix_eliminate_2_0.erase, []⟩ := by kernel_rfl
-- matrix_eliminate_3
abbrev c_matrix_eliminate_3_0 : SC := (.reg [o 5 (.mv (.t 0)), o 9 (.mv (.t 0)), o 6 (.ld (.t 3) 1 false), o 7 (.ld (.t 1) 1 false), o 8 (.ld (.t 2) 1 false), o 10 (.ld (.t 3) 1 false), o 11 (.iadr (.t 9) (.t 10) 1), o 12 (.ld (.t 11) 1 false), om 2 13 (.call (.f n_field_GF_Scale) [.t 7, .t 8, .t 12]), o 14 (.iadr (.t 5) (.t 6) 1), os (.st (.t 14) (.t 13) 1)])
theorem cf_matrix_eliminate_3 : cfun Go.Proofs.Try.prog md n_matrix_eliminate_3 = some ⟨4, 15, c_matrix_eliminate_3_0.erase, []⟩ := by kernel_rfl
-- matrix_eliminate_4
abbrev c_matrix_eliminate_4_0 : SC := (.reg [o 7 (.mv (.t 0)), o 14 (.mv (.t 0)), o 6 (.ld (.t 1) 1 false), o 8 (.ld (.t 2) 1 false), o 9 (.iadr (.t 7) (.t 8) 1), o 10 (.ld (.t 9) 1 false), o 11 (.ld (.t 1) 1 false), o 12 (.ld (.t 3) 1 false), o 15 (.ld (.t 4) 1 false), o 16 (.iadr (.t 14) (.t 15) 1), o 17 (.ld (.t 16) 1 false), om 1 13 (.call (.f n_field_GF_Neg) [.t 11, .t 12]), o 18 (.call (.f n_matrix_add) [.t 6, .t 10, .t 13, .t 17])])
theorem cf_matrix_eliminate_4 : cfun Go.Proofs.Try.prog md n_matrix_eliminate_4 = some ⟨5, 19, c_matrix_eliminate_4_0.erase, []⟩ := by kernel_rfl
-- matrix_clone
abbrev c_matrix_cloneL0_3 : SC := (.reg [o 21 (.bin .add (.t 11) (ki 1)), o 11 (.mv (.t 21))])
abbrev c_matrix_cloneL0_2 : SC := .seq (.block 1 (.seq (.reg [o 13 (.mv (.t 11)), o 14 (.iadr (.t 9) (.t 11) 1), o 15 (.ld (.t 14) 1 false), o 4 (.mv (.t 13)), o 5 (.mv (.t 15))]) (.reg [o 16 (.mv (.t 3)), o 17 (.mv (.t 4)), o 18 (.mv (.t 5)), o 19 (.call (.f n_slices_Clone_int_int) [.t 18]), o 20 (.iadr (.t 16) (.t 17) 1), os (.st (.t 20) (.t 19) 1)]))) c_matrix_cloneL0_3
abbrev c_matrix_cloneL0_1 : SC := .seq (.cond (.t 12) .skip (.exit 0)) c_matrix_cloneL0_2
abbrev c_matrix_cloneL0_0 : SC := .seq (.reg [o 12 (.bin .lss (.t 11) (.t 10))]) c_matrix_cloneL0_1
abbrev c_matrix_clone_4 : SC := .ret
abbrev c_matrix_clone_3 : SC := .seq (.reg [o 22 (.mv (.t 3)), o 2 (.mv (.t 22))]) c_matrix_clone_4
abbrev c_matrix_clone_2 : SC := .seq (.seq (.reg [o 9 (.mv (.t 0)), o 10 (.len (.t 9)), o 11 (.mv (ki 0))]) (.block 0 (.loop c_matrix_cloneL0_0))) c_matrix_clone_3
abbrev c_matrix_clone_1 : SC := .seq (.reg [o 6 (.mv (.t 0)), o 7 (.len (.t 6)), o 8 (.mks (.t 7) 1 [.nils]), o 3 (.mv (.t 8))]) c_matrix_clone_2
abbrev c_matrix_clone_0 : SC := .seq (.reg [o 2 (.mv (.k .nils))]) c_matrix_clone_1
theorem cf_matrix_clone : cfun Go.Proofs.Try.prog md n_matrix_clone = some ⟨1, 23, c_matrix_clone_0.erase, [.t 2]⟩ := by kernel_rfl
-- matrix_unit
abbrev c_matrix_unitL0_3 : SC := (.reg [o 23 (.bin .add (.t 9) (ki 1)), o 9 (.mv (.t 23))])
abbrev c_matrix_unitL0_2 : SC := .seq (.block 1 (.seq (.reg [o 11 (.mv (.t 9)), o 4 (.mv (.t 11))]) (.seq (.reg [o 12 (.mv (.t 3)), o 13 (.mv (.t 4)), o 14 (.mv (.t 0)), o 15 (.mks (.t 14) 1 [I 0]), o 16 (.iadr (.t 12) (.t 13) 1), os (.st (.t 16) (.t 15) 1)]) (.reg [o 17 (.mv (.t 3)), o 18 (.mv (.t 4)), o 19 (.iadr (.t 17) (.t 18) 1), o 20 (.ld (.t 19) 1 false), o 21 (.mv (.t 4)), o 22 (.iadr (.t 20) (.t 21) 1), os (.st (.t 22) (ki 1) 1)])))) c_matrix_unitL0_3
abbrev c_matrix_unitL0_1 : SC := .seq (.cond (.t 10) .skip (.exit 0)) c_matrix_unitL0_2
abbrev c_matrix_unitL0_0 : SC := .seq (.reg [o 10 (.bin .lss (.t 9) (.t 8))]) c_matrix_unitL0_1
abbrev c_matrix_unit_4 : SC := .ret
abbrev c_matrix_unit_3 : SC := .seq (.reg [o 24 (.mv (.t 3)), o 2 (.mv (.t 24))]) c_matrix_unit_4
abbrev c_matrix_unit_2 : SC := .seq (.seq (.reg [o 7 (.mv (.t 3)), o 8 (.len (.t 7)), o 9 (.mv (ki 0))]) (.block 0 (.loop c_matrix_unitL0_0))) c_matrix_unit_3
abbrev c_matrix_unit_1 : SC := .seq (.reg [o 5 (.mv (.t 0)), o 6 (.mks (.t 5) 1 [.nils]), o 3 (.mv (.t 6))]) c_matrix_unit_2
abbrev c_matrix_unit_0 : SC := .seq (.reg [o 2 (.mv (.k .nils))]) c_matrix_unit_1
theorem cf_matrix_unit : cfun Go.Proofs.Try.prog md n_matrix_unit = some ⟨1, 25, c_matrix_unit_0.erase, [.t 2]⟩ := by kernel_rfl
-- slices_Clone_int_int
abbrev c_slices_Clone_int_int_3 : SC := .ret
abbrev c_slices_Clone_int_int_2 : SC := .seq (.reg [o 5 (.mkl 0 1 [] []), o 6 (.mv (.t 0)), o 7 (.app (.t 5) (.t 6) 1), o 2 (.mv (.t 7))]) c_slices_Clone_int_int_3
abbrev c_slices_Clone_int_int_1 : SC := .seq (.seq (.reg [o 3 (.mv (.t 0)), o 4 (.isnil false (.t 3))]) (.cond (.t 4) (.seq (.reg [o 2 (.mv (.k .nils))]) .ret) .skip)) c_slices_Clone_int_int_2
abbrev c_slices_Clone_int_int_0 : SC := .seq (.reg [o 2 (.mv (.k .nils))]) c_slices_Clone_int_int_1
theorem cf_slices_Clone_int_int : cfun Go.Proofs.Try.prog md n_slices_Clone_int_int = some ⟨1, 8, c_slices_Clone_int_int_0.erase, [.t 2]⟩ := by kernel_rfl
-- matrix_canon
abbrev c_matrix_canon_4 : SC := .ret
abbrev c_matrix_canon_3 : SC := .seq (.reg [o 20 (.mv (.t 8)), o 21 (.mv (.t 9)), o 22 (.len (.t 21)), o 23 (.mv (.t 9)), o 24 (.len (.t 23)), o 25 (.slc (.t 20) none (some (.t 22)) (some (.t 24)) 1), o 26 (.mv (.t 9)), o 6 (.mv (.t 25)), o 7 (.mv (.t 26))]) c_matrix_canon_4
abbrev c_matrix_canon_2 : SC := .seq (.reg [o 14 (.mv (.t 0)), o 15 (.mv (.t 8)), o 16 (.mv (.t 2)), o 17 (.call (.f n_matrix_eliminate) [.t 14, .t 15, .t 16, .k .nils]), o 13 (.mv (.t 17)), o 18 (.ext (.t 13) 0), o 19 (.ext (.t 13) 1), o 9 (.mv (.t 18)), o 10 (.mv (.t 19))]) c_matrix_canon_3
abbrev c_matrix_canon_1 : SC := .seq (.reg [o 11 (.mv (.t 1)), o 12 (.call (.f n_matrix_clone) [.t 11]), o 8 (.mv (.t 12))]) c_matrix_canon_2
abbrev c_matrix_canon_0 : SC := .seq (.reg [o 6 (.mv (.k .nils)), o 7 (.mv (.k .nils))]) c_matrix_canon_1
theorem cf_matrix_canon : cfun Go.Proofs.Try.prog md n_matrix_canon = some ⟨3, 27, c_matrix_canon_0.erase, [.t 6, .t 7]⟩ := by kernel_rfl
end Go.AM.Ytmihmgnjnedfcab
end

section
/- Live matrices beside what must stay; contracts of functions: the steps of the elimination, clone, unit. -/
set_option maxRecDepth 100000
set_option linter.unusedSimpArgs false
set_option linter.unusedVariables false
namespace Go.AM.Ytmihmgnjnedfcab
open Go Go.AM
attribute [local simp ↓] awp_seq awp_reg awp_skip awp_cond' awp_block awp_exit awp_ret awp_fz thenW_normal thenW_exit thenW_ret inBlk_normal inBlk_exit inBlk_ret aops_cons' contA_ap aops_nil e_mv e_guard' e_pick' e_ld' e_app e_cpy e_st' e_call callW_f updO_some updO_none e_bin' e_isnil' e_fadr' e_iadr' e_iarr' e_len' e_build' e_mkf' e_nc' e_not' e_neg' e_cvt' e_slc' e_fld' e_ext' e_min' e_eqs' e_new e_box e_mkl e_mks
attribute [local simp] upd_apply ev_t ev_k ev_f binA_add binA_sub binA_mul binA_quo binA_rem binA_eql binA_neq binA_lss binA_leq binA_gtr binA_geq det mem frame0 keeps_nil iadrA_sl fadrA_ref fadrA_fp ldv_agg ldv_one cells_base hset_same hset_hset lenA_fs lenA_sl lenA_nils zeros_ints ints_length one_base one_nilp one_nils one_ref one_sl one_fp one_fs one_fn gl_one resA resOf bound natOf afill splice AV.cells cells_agg bindR_some condR_true condR_false guardR_tup guardR_true guardR_true' guardR_false guardR_false' allocW_some pickA_true pickA_false
attribute [local simp ↓] callW_t CallV_fn
open Go.FM

section
open Classical

/-- The memory without a matrix. -/
noncomputable def hout (h : Hp) (o : Nat) (bs : Nat → Nat) (n : Nat) : Hp := fun b => if b = o ∨ ∃ i, i < n ∧ b = bs i then none else h b

/-- A live matrix, beside the memory G, which stays. -/
structure LV (G h : Hp) (o : Nat) (bs : Nat → Nat) (L : List (List Int)) : Prop where
  lm : LM h o bs L
  kp : Kp G h
  no : G o = none
  nr : ∀ i, i < L.length → G (bs i) = none

/-- Two matrices have no block in common. -/
def Dj (o : Nat) (bs : Nat → Nat) (n : Nat) (o2 : Nat) (bs2 : Nat → Nat) (n2 : Nat) : Prop := o ≠ o2 ∧ (∀ i, i < n → bs i ≠ o2) ∧ (∀ j, j < n2 → bs2 j ≠ o) ∧ ∀ i j, i < n → j < n2 → bs i ≠ bs2 j
theorem Dj.symm {o : Nat} {bs : Nat → Nat} {n o2 : Nat} {bs2 : Nat → Nat} {n2 : Nat} (d : Dj o bs n o2 bs2 n2) : Dj o2 bs2 n2 o bs n :=
  ⟨Ne.symm d.1, d.2.2.1, d.2.1, fun i j hi hj => Ne.symm (d.2.2.2 j i hj hi)⟩

section
variable {G G' h h' : Hp} {o : Nat} {bs bs' : Nat → Nat} {L L' : List (List Int)} {b : Nat} {xs ys : List AV}
theorem hout_in {b : Nat} {n : Nat} (h1 : b ≠ o) (h2 : ∀ i, i < n → b ≠ bs i) : hout h o bs n b = h b := by
  unfold hout; rw [if_neg]; rintro (h | ⟨i, hi, he⟩)
  · exact h1 h
  · exact h2 i hi he
theorem hout_none {b : Nat} {n : Nat} (hh : hout h o bs n b = none) : b = o ∨ (∃ i, i < n ∧ b = bs i) ∨ h b = none := by
  unfold hout at hh
  split at hh
  · rename_i hc; rcases hc with hc | hc
    · exact .inl hc
    · exact .inr (.inl hc)
  · exact .inr (.inr hh)
theorem hout_kp (h : Hp) (o : Nat) (bs : Nat → Nat) (n : Nat) : Kp (hout h o bs n) h := fun b xs hb => by
  unfold hout at hb; split at hb
  · cases hb
  · exact hb
theorem LM.lv (m : LM h o bs L) : LV (hout h o bs L.length) h o bs L :=
  ⟨m, hout_kp h o bs L.length, by unfold hout; rw [if_pos (.inl rfl)], fun i hi => by unfold hout; rw [if_pos (.inr ⟨i, hi, rfl⟩)]⟩
theorem LV.out (a : LV G h o bs L) : Kp G (hout h o bs L.length) := fun b xs hb => by
  rw [hout_in (fun he => by rw [he, a.no] at hb; cases hb) fun i hi he => by rw [he, a.nr i hi] at hb; cases hb]
  exact a.kp b xs hb
theorem LV.through (a : LV G h o bs L) (s : LV (hout h o bs L.length) h' o bs' L') (hl : L'.length = L.length) : LV G h' o bs' L' := by
  refine ⟨s.lm, a.out.trans s.kp, a.no, fun i hi => ?_⟩
  rcases hout_none (s.nr i hi) with e | ⟨j, hj, e⟩ | e
  · rw [e]; exact a.no
  · rw [e]; exact a.nr j hj
  · exact a.kp.no e
theorem LV.other {o2 : Nat} {bs2 : Nat → Nat} {A : List (List Int)} (s : LV (hout h o bs L.length) h' o bs' L') (hl : L'.length = L.length) (c : LM h o2 bs2 A) (d : Dj o bs L.length o2 bs2 A.length) :
    LM h' o2 bs2 A ∧ Dj o bs' L'.length o2 bs2 A.length := by
  have e1 : hout h o bs L.length o2 = h o2 := hout_in (Ne.symm d.1) fun i hi => Ne.symm (d.2.1 i hi)
  have e2 : ∀ j, j < A.length → hout h o bs L.length (bs2 j) = h (bs2 j) := fun j hj => hout_in (d.2.2.1 j hj) fun i hi => Ne.symm (d.2.2.2 i j hi hj)
  refine ⟨⟨c.inj, c.ne, s.kp _ _ (e1.trans c.out), fun j hj => s.kp _ _ ((e2 j hj).trans (c.row j hj))⟩, d.1, fun i hi he => ?_, d.2.2.1, fun i j hi hj he => ?_⟩
  · have := s.nr i hi
    rw [he, e1, c.out] at this; cases this
  · have := s.nr i hi
    rw [he, e2 j hj, c.row j hj] at this; cases this
theorem LV.mono (a : LV G h o bs L) (k : Kp G' G) : LV G' h o bs L := ⟨a.lm, k.trans a.kp, k.no a.no, fun i hi => k.no (a.nr i hi)⟩
theorem LV.ob (a : LV G h o bs L) (hb : h b = none) : b ≠ o ∧ ∀ i, i < L.length → b ≠ bs i :=
  ⟨(fun he => by rw [he, a.lm.out] at hb; cases hb), (fun i hi he => by rw [he, a.lm.row i hi] at hb; cases hb)⟩
theorem LV.add (a : LV G h o bs L) (hb : h b = none) (xs : List AV) : LV (hset G b xs) (hset h b xs) o bs L := by
  obtain ⟨h1, h2⟩ := a.ob hb
  refine ⟨a.lm.mono ((Kp.refl h).new hb _), a.kp.both b xs, by rw [hset_ne _ _ (Ne.symm h1)]; exact a.no, fun i hi => by rw [hset_ne _ _ (Ne.symm (h2 i hi))]; exact a.nr i hi⟩
theorem LV.junk (a : LV G h o bs L) (hb : h b = none) (xs : List AV) : LV G (hset h b xs) o bs L := ⟨a.lm.mono ((Kp.refl h).new hb _), a.kp.new hb _, a.no, a.nr⟩
theorem LV.set (a : LV G h o bs L) (hb : G b = some xs) (ys : List AV) : LV (hset G b ys) (hset h b ys) o bs L := by
  have h1 : b ≠ o := fun he => by rw [he, a.no] at hb; cases hb
  have h2 : ∀ i, i < L.length → b ≠ bs i := fun i hi he => by rw [he, a.nr i hi] at hb; cases hb
  refine ⟨⟨a.lm.inj, a.lm.ne, by rw [hset_ne _ _ (Ne.symm h1)]; exact a.lm.out, fun i hi => by rw [hset_ne _ _ (Ne.symm (h2 i hi))]; exact a.lm.row i hi⟩, a.kp.both b ys, by rw [hset_ne _ _ (Ne.symm h1)]; exact a.no, fun i hi => by rw [hset_ne _ _ (Ne.symm (h2 i hi))]; exact a.nr i hi⟩
theorem LV.grow (a : LV G h o bs L) (k : Kp h h') : LV G h' o bs L := ⟨a.lm.mono k, a.kp.trans k, a.no, a.nr⟩
end
end

/-! ### Rows put in place -/

theorem rowsC_get {bs : Nat → Nat} {L : List (List Int)} {i : Nat} (hi : i < L.length) : (rowsC bs L).getD i .nils = .sl (bs i) 0 (L.getD i []).length 1 := by
  unfold rowsC
  simp [List.getD, hi]
theorem rowsC_set {bs : Nat → Nat} {L : List (List Int)} {i : Nat} (hi : i < L.length) (b : Nat) (l : List Int) : (rowsC bs L).set i (.sl b 0 l.length 1) = rowsC (fun j => if j = i then b else bs j) (L.set i l) := by
  unfold rowsC
  rw [List.length_set]
  refine List.ext_getElem (by simp) fun j h1 h2 => ?_
  simp only [List.length_set, List.length_map, List.length_range] at h1
  rw [List.getElem_set]
  simp only [List.getElem_map, List.getElem_range]
  by_cases h : i = j
  · subst h; rw [if_pos rfl, if_pos rfl, getD_set, if_pos ⟨rfl, hi⟩]
  · rw [if_neg h, if_neg (Ne.symm h), getD_set, if_neg (by omega)]

section
variable {G h : Hp} {o : Nat} {bs : Nat → Nat} {L : List (List Int)}
theorem LM.outC (m : LM h o bs L) : h o = some (rowsC bs L) := m.out
/-- A new row is put in place. -/
theorem LM.repl (m : LM h o bs L) {i : Nat} (hi : i < L.length) {b : Nat} {l : List Int} (hb : h b = some (ints l)) (hbo : b ≠ o) (hbn : ∀ j, j < L.length → j ≠ i → b ≠ bs j) :
    LM (hset h o (rowsC (fun j => if j = i then b else bs j) (L.set i l))) o (fun j => if j = i then b else bs j) (L.set i l) := by
  refine ⟨fun a c ha hc hac => ?_, fun a ha => ?_, hset_same .., fun a ha => ?_⟩
  · rw [List.length_set] at ha hc
    try dsimp only
    by_cases h1 : a = i
    · rw [if_pos h1, if_neg (by omega)]; exact hbn c hc (by omega)
    · rw [if_neg h1]
      by_cases h2 : c = i
      · rw [if_pos h2]; exact Ne.symm (hbn a ha h1)
      · rw [if_neg h2]; exact m.inj a c ha hc hac
  · rw [List.length_set] at ha
    try dsimp only
    by_cases h1 : a = i
    · rw [if_pos h1]; exact hbo
    · rw [if_neg h1]; exact m.ne a ha
  · rw [List.length_set] at ha
    try dsimp only
    rw [getD_set]
    by_cases h1 : a = i
    · rw [if_pos h1, if_pos ⟨h1, hi⟩, hset_ne _ _ hbo]; exact hb
    · rw [if_neg h1, if_neg (by omega), hset_ne _ _ (m.ne a ha)]; exact m.row a ha
end

/-- Two rows are exchanged. -/
def bsw (bs : Nat → Nat) (i k : Nat) : Nat → Nat := fun j => if j = k then bs i else if j = i then bs k else bs j
theorem rowsC_sw {bs : Nat → Nat} {L : List (List Int)} {i k : Nat} (hi : i < L.length) (hk : k < L.length) :
    ((rowsC bs L).set i (.sl (bs k) 0 (L.getD k []).length 1)).set k (.sl (bs i) 0 (L.getD i []).length 1) = rowsC (bsw bs i k) (swL L i k) := by
  rw [rowsC_set hi, rowsC_set (by simpa using hk)]
  rfl
theorem LM.sw {h : Hp} {o : Nat} {bs : Nat → Nat} {L : List (List Int)} (m : LM h o bs L) {i k : Nat} (hi : i < L.length) (hk : k < L.length) : LM (hset h o (rowsC (bsw bs i k) (swL L i k))) o (bsw bs i k) (swL L i k) := by
  have hl := swL_len L i k
  refine ⟨fun a c ha hc hac => ?_, fun a ha => ?_, hset_same .., fun a ha => ?_⟩
  · rw [hl] at ha hc
    unfold bsw
    by_cases h1 : a = k
    · rw [if_pos h1, if_neg (by omega)]
      by_cases h2 : c = i
      · rw [if_pos h2]; exact m.inj i k hi hk (by omega)
      · rw [if_neg h2]; exact m.inj i c hi hc (by omega)
    · rw [if_neg h1]
      by_cases h2 : a = i
      · rw [if_pos h2]
        by_cases h3 : c = k
        · rw [if_pos h3]; exact m.inj k i hk hi (by omega)
        · rw [if_neg h3, if_neg (by omega)]; exact m.inj k c hk hc (by omega)
      · rw [if_neg h2]
        by_cases h3 : c = k
        · rw [if_pos h3]; exact m.inj a i ha hi h2
        · rw [if_neg h3]
          by_cases h4 : c = i
          · rw [if_pos h4]; exact m.inj a k ha hk h1
          · rw [if_neg h4]; exact m.inj a c ha hc hac
  · rw [hl] at ha
    unfold bsw
    split
    · exact m.ne i hi
    · split
      · exact m.ne k hk
      · exact m.ne a ha
  · rw [hl] at ha
    rw [swL_get hi hk]
    unfold bsw
    by_cases h1 : a = k
    · rw [if_pos h1, if_pos h1, hset_ne _ _ (m.ne i hi)]; exact m.row i hi
    · rw [if_neg h1, if_neg h1]
      by_cases h2 : a = i
      · rw [if_pos h2, if_pos h2, hset_ne _ _ (m.ne k hk)]; exact m.row k hk
      · rw [if_neg h2, if_neg h2, hset_ne _ _ (m.ne a ha)]; exact m.row a ha

/-! ### The steps -/

/-- What a step does to a matrix; E is what it reads beside it. -/
def StepOk (E : Hp) (f : FuncId) (caps : List AV) (g : List (List Int) → List (List Int)) (n : Nat) : Prop := ∀ (h : Hp) (o : Nat) (bs : Nat → Nat) (L : List (List Int)), L.length = n → (∃ w, w ≤ 4294967296 ∧ ∀ row ∈ L, row.length = w) →
  LM h o bs L → Kp E (hout h o bs n) → Spec prog f (.sl o 0 n 1 :: caps) h (fun v h' => v = .tup [] ∧ ∃ bs', LV (hout h o bs n) h' o bs' (g L))

theorem step_swap {E : Hp} {bk ba : Nat} {k a n : Nat} (hk : E bk = some [I k]) (ha : E ba = some [I a]) (hkn : k < n) (han : a < n) : StepOk E n_matrix_eliminate_2 [.ref bk 0, .ref ba 0] (fun L => swL L a k) n := by
  intro h o bs L hl _ m kp
  subst hl
  refine spec_of cf_matrix_eliminate_2 rfl ?_
  have lk := ld_one_at (hout_kp h o bs _ _ _ (kp _ _ hk)) (k := 0) (by simp)
  have la := ld_one_at (hout_kp h o bs _ _ _ (kp _ _ ha)) (k := 0) (by simp)
  have hko : bk ≠ o := fun he => by have := kp _ _ hk; rw [he, m.lv.no] at this; cases this
  have lk2 := fun xs => ld_one_at (h := hset h o xs) (b := bk) (k := 0) (by rw [hset_ne _ _ hko]; exact hout_kp h o bs _ _ _ (kp _ _ hk)) (by simp)
  have lr1 := m.ld hkn
  have lr2 := m.ld han
  have s1 := fun R => sr_one (R := R) (v := .sl (bs k) 0 (L.getD k []).length 1) (k := a) m.outC rfl rfl (by rw [rowsC_len]; exact han)
  have s2 := fun R => sr_one (R := R) (v := .sl (bs a) 0 (L.getD a []).length 1) (k := k) (hset_same h o ((rowsC bs L).set a (.sl (bs k) 0 (L.getD k []).length 1))) rfl rfl (by rw [List.length_set, rowsC_len]; exact hkn)
  rw [hset_hset, rowsC_sw han hkn] at s2
  have s1' : ∀ Q : Hp → Prop, stW (.ref o a) (.sl (bs k) 0 (L.getD k []).length 1) 1 h Q = Q (hset h o ((rowsC bs L).set a (.sl (bs k) 0 (L.getD k []).length 1))) := fun Q => st_one_at m.outC rfl rfl (by rw [rowsC_len]; exact han)
  have hkn' : (k : Int) < L.length := by omega
  have han' : (a : Int) < L.length := by omega
  generalize (L.getD k []).length = lk0 at *
  generalize (L.getD a []).length = la0 at *
  simp [lk, la, hkn', han', hkn, han, lr1, lr2, e_st, s1', lk2, keeps, s2]
  refine ⟨bsw bs a k, m.sw han hkn, ?_, m.lv.no, fun i hi => ?_⟩
  · exact (hout_kp h o bs _).set m.lv.no _
  · rw [swL_len] at hi
    unfold bsw
    split
    · exact m.lv.nr a han
    · split
      · exact m.lv.nr k hkn
      · exact m.lv.nr i hi

theorem scV_get {D : Ds} {a : Int} {l : List Int} {k : Nat} (hk : k < l.length) : (scV D a l).getD k 0 = D.mul a (l.getD k 0) := map_getD' (D.mul a) l k 0 0 hk

theorem w_Scale {D : Ds} (r : Fd D) (a : Int) {h : Hp} {v : AV} {l : List Int} (hv : RS h v l) (hl : l.length ≤ 4294967296) : Spec prog n_field_GF_Scale [.fp (gfC D), I a, v] h (LiveR h (scV D a l)) := by
  refine spec_of cf_field_GF_Scale rfl ?_
  have hl' : (l.length : Int) ≤ 4294967296 := by omega
  have hN := scV_len D a l
  have hNg := fun k hk => scV_get (D := D) (a := a) (l := l) (k := k) hk
  generalize scV D a l = N at *
  simp [hv.len, hl']
  intro b hb
  refine awp_for l.length (fun k fr' h' => Kp h h' ∧ h' b = some (ints (N.take k ++ (List.replicate l.length 0).drop k)) ∧ fr' 15 = I k) ⟨(Kp.refl h).new hb _, by simp [hset_same], by simp⟩ ?_
  intro k fr' h' hkn hk ⟨hkp, hbk, k15⟩
  have k0 := hk 0 (by decide)
  have k1 := hk 1 (by decide)
  have k7 := hk 7 (by decide)
  have k13 := hk 13 (by decide)
  have k14 := hk 14 (by decide)
  simp at k0 k1 k7 k13 k14
  clear hk
  have hzl : (List.replicate l.length (0 : Int)).length = l.length := by simp
  generalize List.replicate l.length (0 : Int) = Z at *
  by_cases hlt : k < l.length
  · obtain ⟨x, hx1, hx2⟩ := hv.rdk hlt
    have hx3 := hx2 _ hkp
    have hst := fun R => sr_ints (R := R) (v := N.getD k 0) hbk (k := k) (by rw [tk_len (by omega) (by omega)]; omega)
    rw [tk_set (by omega) (by omega)] at hst
    have u1 : IntKind.i64.wrap ((k : Int) + 1) = k + 1 := w64 _ (by omega)
    have hnk := hNg k hlt
    generalize l.getD k 0 = y at *
    rw [hnk] at hst
    simp [k0, k1, k7, k13, k14, k15, hlt, hx1, hx3]
    refine (s_Mul r a y).call ?_
    simp [k15, u1, hst, hlt]
    exact hkp.set hb _
  · have : k = l.length := by omega
    subst this
    rw [List.take_of_length_le (by omega), List.drop_eq_nil_of_le (by omega), List.append_nil] at hbk
    simp [k7, k14, k15]
    exact ⟨hkp, b, hb, by rw [hN], hbk⟩

theorem step_scale {D : Ds} (r : Fd D) {E : Hp} {bg bi ba : Nat} {x : Int} {a n : Nat} (hg : E bg = some [.fp (gfC D)]) (hi : E bi = some [I x]) (ha : E ba = some [I a]) (han : a < n) :
    StepOk E n_matrix_eliminate_3 [.ref bg 0, .ref bi 0, .ref ba 0] (fun L => L.set a (scV D x (L.getD a []))) n := by
  intro h o bs L hl ⟨w, hw, hrow⟩ m kp
  subst hl
  refine spec_of cf_matrix_eliminate_3 rfl ?_
  have lg := ld_one_at (hout_kp h o bs _ _ _ (kp _ _ hg)) (k := 0) (by simp)
  have li := ld_one_at (hout_kp h o bs _ _ _ (kp _ _ hi)) (k := 0) (by simp)
  have la := ld_one_at (hout_kp h o bs _ _ _ (kp _ _ ha)) (k := 0) (by simp)
  have lr := m.ld han
  have hRS : RS h (.sl (bs a) 0 (L.getD a []).length 1) (L.getD a []) := .inr ⟨bs a, rfl, m.row a han⟩
  have hlen := hrow _ (mem_getD (d := []) han)
  have hsc := w_Scale r x hRS (by omega)
  have han' : (a : Int) < L.length := by omega
  have hvl := m.lv
  have hlr := hlen
  dsimp only
  have hrep := fun (b : Nat) (h' : Hp) (m2 : LM h' o bs L) => m2.repl han (b := b) (l := scV D x (L.getD a []))
  generalize L.getD a [] = ra at *
  simp [lg, li, la, han, han', lr]
  refine call2 hsc fun v h' ⟨k2, b, hb, hv, hbv⟩ => ⟨k2, ?_⟩
  subst hv
  have m2 := m.mono k2
  obtain ⟨hbo, hbn⟩ := hvl.ob hb
  have s2 := fun R => sr_one (R := R) (v := .sl b 0 (scV D x ra).length 1) (k := a) m2.outC rfl rfl (by rw [rowsC_len]; exact han)
  rw [rowsC_set han] at s2
  rw [scV_len] at s2
  rw [scV_len]
  simp [han, han', s2]
  refine ⟨_, hrep _ _ m2 hbv hbo (fun j hj _ => hbn j hj), (hvl.kp.trans k2).set hvl.no _, hvl.no, fun i hi => ?_⟩
  rw [List.length_set] at hi
  try dsimp only
  split
  · exact hvl.kp.no hb
  · exact hvl.nr i hi

theorem step_clear {D : Ds} (r : Fd D) {E : Hp} {bg bi bx ba : Nat} {x : Int} {i a n : Nat} (hg : E bg = some [.fp (gfC D)]) (hi : E bi = some [I i]) (hx : E bx = some [I x]) (ha : E ba = some [I a]) (han : a < n) (hin : i < n) (hia : i ≠ a) :
    StepOk E n_matrix_eliminate_4 [.ref bg 0, .ref bi 0, .ref bx 0, .ref ba 0] (fun L => L.set i (addV D (L.getD i []) (D.neg x) (L.getD a []))) n := by
  intro h o bs L hl ⟨w, hw, hrow⟩ m kp
  subst hl
  refine spec_of cf_matrix_eliminate_4 rfl ?_
  have lg := ld_one_at (hout_kp h o bs _ _ _ (kp _ _ hg)) (k := 0) (by simp)
  have li := ld_one_at (hout_kp h o bs _ _ _ (kp _ _ hi)) (k := 0) (by simp)
  have lx := ld_one_at (hout_kp h o bs _ _ _ (kp _ _ hx)) (k := 0) (by simp)
  have la := ld_one_at (hout_kp h o bs _ _ _ (kp _ _ ha)) (k := 0) (by simp)
  have lr := m.ld han
  have lr2 := m.ld hin
  have hRS : RS h (.sl (bs a) 0 (L.getD a []).length 1) (L.getD a []) := .inr ⟨bs a, rfl, m.row a han⟩
  have hlen := hrow _ (mem_getD (d := []) han)
  have hlen2 := hrow _ (mem_getD (d := []) hin)
  have hne := m.inj a i han hin (Ne.symm hia)
  have hadd := s_add r (m.row i hin) (D.neg x) hRS (by omega) (by
    intro hc
    injection hc with h1
    exact hne h1) (by omega)
  have han' : (a : Int) < L.length := by omega
  have hin' : (i : Int) < L.length := by omega
  have hvl := m.lv
  have hpu := m.put (i := i) hin (l' := addV D (L.getD i []) (D.neg x) (L.getD a [])) (by rw [addV_len])
  dsimp only
  generalize L.getD i [] = ri at *
  generalize L.getD a [] = ra at *
  simp [lg, li, lx, la, han, han', hin, hin', lr, lr2]
  refine (s_Neg r x).call ?_
  simp
  refine call0 hadd fun v h' ⟨hv, hh⟩ => ?_
  subst hv hh
  simp
  refine ⟨_, hpu, hvl.kp.set (hvl.nr i hin) _, hvl.no, fun j hj => ?_⟩
  rw [List.length_set] at hj
  exact hvl.nr j hj

/-! ### Both matrices -/

/-- The rows, and beside them, where there are some, the other ones; L are both, put together. -/
def E2 (G h : Hp) (o w : Nat) (av : AV) (L : List (List Int)) : Prop := ∃ bs, LV G h o bs (tkL w L) ∧ (av = .nils ∨ ∃ o2 bs2, av = .sl o2 0 L.length 1 ∧ LV G h o2 bs2 (dpL w L) ∧ Dj o bs L.length o2 bs2 L.length)
theorem tkL_len (w : Nat) (L : List (List Int)) : (tkL w L).length = L.length := by simp [cutL]
theorem dpL_len (w : Nat) (L : List (List Int)) : (dpL w L).length = L.length := by simp [cutL]
section
variable {G G' h : Hp} {o w b : Nat} {av : AV} {L : List (List Int)} {xs : List AV}
theorem E2.mono (e : E2 G h o w av L) (k : Kp G' G) : E2 G' h o w av L := by
  obtain ⟨bs, h1, h2⟩ := e
  exact ⟨bs, h1.mono k, h2.imp id fun ⟨o2, bs2, e1, e2, e3⟩ => ⟨o2, bs2, e1, e2.mono k, e3⟩⟩
theorem E2.add (e : E2 G h o w av L) (hb : h b = none) (xs : List AV) : E2 (hset G b xs) (hset h b xs) o w av L := by
  obtain ⟨bs, h1, h2⟩ := e
  exact ⟨bs, h1.add hb xs, h2.imp id fun ⟨o2, bs2, e1, e2, e3⟩ => ⟨o2, bs2, e1, e2.add hb xs, e3⟩⟩
theorem E2.junk (e : E2 G h o w av L) (hb : h b = none) (xs : List AV) : E2 G (hset h b xs) o w av L := by
  obtain ⟨bs, h1, h2⟩ := e
  exact ⟨bs, h1.junk hb xs, h2.imp id fun ⟨o2, bs2, e1, e2, e3⟩ => ⟨o2, bs2, e1, e2.junk hb xs, e3⟩⟩
theorem E2.set (e : E2 G h o w av L) (hb : G b = some xs) (ys : List AV) : E2 (hset G b ys) (hset h b ys) o w av L := by
  obtain ⟨bs, h1, h2⟩ := e
  exact ⟨bs, h1.set hb ys, h2.imp id fun ⟨o2, bs2, e1, e2, e3⟩ => ⟨o2, bs2, e1, e2.set hb ys, e3⟩⟩
theorem E2.kp (e : E2 G h o w av L) : Kp G h := by
  obtain ⟨bs, h1, h2⟩ := e
  exact h1.kp
theorem E2.grow {h' : Hp} (e : E2 G h o w av L) (k : Kp h h') : E2 G h' o w av L := by
  obtain ⟨bs, h1, h2⟩ := e
  exact ⟨bs, h1.grow k, h2.imp id fun ⟨o2, bs2, e1, e2, e3⟩ => ⟨o2, bs2, e1, e2.grow k, e3⟩⟩
/-- A number of the rows. -/
theorem E2.ld (e : E2 G h o w av L) {i : Nat} (hi : i < L.length) : ∃ b, cellsAt h (.ref o i) 1 = some [.sl b 0 ((L.getD i []).take w).length 1] ∧ ∀ c, c < w → c < (L.getD i []).length → cellsAt h (.ref b c) 1 = some [I ((L.getD i []).getD c 0)] := by
  obtain ⟨bs, h1, _⟩ := e
  have hr := h1.lm.row i (by rw [tkL_len]; exact hi)
  have hl := h1.lm.ld (i := i) (by rw [tkL_len]; exact hi)
  rw [cutL_get (tk_nil w)] at hr hl
  refine ⟨bs i, hl, fun c hc hc2 => ?_⟩
  have := ld_ints_at hr (k := c) (by rw [List.length_take]; omega)
  rwa [take_get hc] at this
end

/-- A step that does the same to both parts. -/
structure Split (w : Nat) (L : List (List Int)) (g : List (List Int) → List (List Int)) : Prop where
  tk : g (tkL w L) = tkL w (g L)
  dp : g (dpL w L) = dpL w (g L)
  len : (g L).length = L.length

theorem w_each {G h : Hp} {o w b5 b7 : Nat} {av : AV} {L : List (List Int)} {f : FuncId} {caps : List AV} {g : List (List Int) → List (List Int)} (e : E2 G h o w av L) (h5 : G b5 = some [.sl o 0 L.length 1]) (h7 : G b7 = some [av])
    (st : StepOk G f caps g L.length) (sp : Split w L g) (hw : ∃ w2, w2 ≤ 4294967296 ∧ ∀ row ∈ L, row.length = w2) :
    Spec prog n_matrix_eliminate_1 [.fn f [] caps, .ref b5 0, .ref b7 0] h (fun v h' => v = .tup [] ∧ E2 G h' o w av (g L)) := by
  refine spec_of cf_matrix_eliminate_1 rfl ?_
  have kp0 := e.kp
  have l5 := ld_one_at (kp0 _ _ h5) (k := 0) (by simp)
  obtain ⟨w2, hw2, hrow⟩ := hw
  have ok1 : ∃ w', w' ≤ 4294967296 ∧ ∀ row ∈ tkL w L, row.length = w' := ⟨min w w2, by omega, fun row hr => by
    obtain ⟨x, hx, rfl⟩ := List.mem_map.1 hr
    rw [List.length_take, hrow x hx]⟩
  have ok2 : ∃ w', w' ≤ 4294967296 ∧ ∀ row ∈ dpL w L, row.length = w' := ⟨w2 - w, by omega, fun row hr => by
    obtain ⟨x, hx, rfl⟩ := List.mem_map.1 hr
    rw [List.length_drop, hrow x hx]⟩
  obtain ⟨bs, e1, e2⟩ := e
  have ht := tkL_len w L
  have hd := dpL_len w L
  have hgt : (g (tkL w L)).length = L.length := by rw [sp.tk, tkL_len, sp.len]
  have hgd : (g (dpL w L)).length = L.length := by rw [sp.dp, dpL_len, sp.len]
  have q1 := st h o bs (tkL w L) ht ok1 e1.lm (by rw [← ht]; exact e1.out)
  simp [l5]
  refine call0 q1 fun v h1 ⟨hv, bs', s1⟩ => ?_
  subst hv
  rw [← ht] at s1
  have t1 := e1.through s1 (by rw [hgt, ht])
  have l7 := ld_one_at (t1.kp _ _ h7) (k := 0) (by simp)
  rcases e2 with rfl | ⟨o2, bs2, rfl, c1, c2⟩
  · simp [l7]
    exact ⟨bs', sp.tk ▸ t1, .inl rfl⟩
  by_cases hn : L.length = 0
  · have hn' : ¬ (0 : Int) < L.length := by omega
    simp [l7, hn]
    have hL : L = [] := List.eq_nil_of_length_eq_zero hn
    have hgL : g L = [] := List.eq_nil_of_length_eq_zero (by rw [sp.len]; exact hn)
    obtain ⟨g1, g2⟩ := LV.other s1 (by rw [hgt, ht]) c1.lm (by rw [ht, hd]; exact c2)
    rw [hgL]
    rw [hL] at g1 g2 c1 t1
    refine ⟨bs', ?_, .inr ⟨o2, bs2, rfl, ⟨g1, t1.kp, c1.no, fun i hi => absurd hi (by simp [cutL])⟩, g2.1, (fun i hi => absurd hi (by simp)), (fun i hi => absurd hi (by simp)), (fun i j hi => absurd hi (by simp))⟩⟩
    have := sp.tk
    rw [hgL, hL] at this
    rw [this] at t1
    exact t1
  · have hn' : (0 : Int) < L.length := by omega
    obtain ⟨g1, g2⟩ := LV.other s1 (by rw [hgt, ht]) c1.lm (by rw [ht, hd]; exact c2)
    have c1' : LV G h1 o2 bs2 (dpL w L) := ⟨g1, t1.kp, c1.no, c1.nr⟩
    have q2 := st h1 o2 bs2 (dpL w L) hd ok2 g1 (by rw [← hd]; exact c1'.out)
    have hn2 : 0 < L.length := by omega
    simp [l7, hn2]
    refine call0 q2 fun v h2 ⟨hv, bs2', s2⟩ => ?_
    subst hv
    rw [← hd] at s2
    have t2 := c1'.through s2 (by rw [hgd, hd])
    obtain ⟨g3, g4⟩ := LV.other s2 (by rw [hgd, hd]) t1.lm g2.symm
    simp
    have t1' : LV G h2 o bs' (g (tkL w L)) := ⟨g3, t2.kp, t1.no, t1.nr⟩
    rw [sp.tk] at t1'
    rw [sp.dp] at t2
    refine ⟨bs', t1', .inr ⟨o2, bs2', by rw [sp.len], t2, ?_⟩⟩
    have := g4.symm
    rw [hgt, hgd] at this
    rw [sp.len]; exact this
end Go.AM.Ytmihmgnjnedfcab
end

section
/- Contracts of functions: eliminate. -/
set_option maxRecDepth 100000
set_option linter.unusedSimpArgs false
set_option linter.unusedVariables false
namespace Go.AM.Ytmihmgnjnedfcab
open Go Go.AM
attribute [local simp ↓] awp_seq awp_reg awp_skip awp_cond' awp_block awp_exit awp_ret awp_fz thenW_normal thenW_exit thenW_ret inBlk_normal inBlk_exit inBlk_ret aops_cons' contA_ap aops_nil e_mv e_guard' e_pick' e_ld' e_app e_cpy e_st' e_call callW_f updO_some updO_none e_bin' e_isnil' e_fadr' e_iadr' e_iarr' e_len' e_build' e_mkf' e_nc' e_not' e_neg' e_cvt' e_slc' e_fld' e_ext' e_min' e_eqs' e_new e_box e_mkl e_mks
attribute [local simp] upd_apply ev_t ev_k ev_f binA_add binA_sub binA_mul binA_quo binA_rem binA_eql binA_neq binA_lss binA_leq binA_gtr binA_geq det mem frame0 keeps_nil iadrA_sl fadrA_ref fadrA_fp ldv_agg ldv_one cells_base hset_same hset_hset lenA_fs lenA_sl lenA_nils zeros_ints ints_length one_base one_nilp one_nils one_ref one_sl one_fp one_fs one_fn gl_one resA resOf bound natOf afill splice AV.cells cells_agg bindR_some condR_true condR_false guardR_tup guardR_true guardR_true' guardR_false guardR_false' allocW_some pickA_true pickA_false
attribute [local simp ↓] callW_t CallV_fn
open Go.FM

theorem split_sw (w : Nat) (L : List (List Int)) (a k : Nat) : Split w L (fun L => swL L a k) :=
  ⟨(cutL_sw (tk_nil w) L a k).symm, (cutL_sw (dp_nil w) L a k).symm, swL_len L a k⟩
theorem split_scale (D : Ds) (x : Int) (w : Nat) (L : List (List Int)) (a : Nat) : Split w L (fun L => L.set a (scV D x (L.getD a []))) :=
  ⟨by unfold tkL; rw [cutL_set, cutL_get (tk_nil w), scV_take], by unfold dpL; rw [cutL_set, cutL_get (dp_nil w), scV_drop], by simp⟩
theorem split_clear (D : Ds) (x : Int) (w : Nat) (L : List (List Int)) (i a : Nat) : Split w L (fun L => L.set i (addV D (L.getD i []) x (L.getD a []))) :=
  ⟨by unfold tkL; rw [cutL_set, cutL_get (tk_nil w), cutL_get (tk_nil w), addV_take], by unfold dpL; rw [cutL_set, cutL_get (dp_nil w), cutL_get (dp_nil w), addV_drop], by simp⟩

/-- From here on the slots that the code does not write are as they are. -/
theorem awp_keepK {P : Program} {c : SC} {K : AE → Fr → Hp → Prop} {fr : Fr} {h : Hp} (a : awp P c (fun e fr' h' => (∀ s, c.writes.contains s = false → fr' s = fr s) → K e fr' h') fr h) : awp P c K fr h :=
  awp_mono (fun e fr' h' hh => hh.1 fun s hs => hh.2 s fun hm => by rw [List.contains_eq_mem] at hs; simp [hm] at hs) (awp_keep a)

section
variable {G h : Hp} {o w b : Nat} {av v : AV} {L : List (List Int)} {xs cs : List AV} {n : Nat}

/-- The pivots' slice beside G. -/
def PvG (G Gk : Hp) (v : AV) (n : Nat) (cs : List AV) : Prop := cs.length = n ∧ ((n = 0 ∧ v = .nils ∧ Gk = G) ∨ (0 < n ∧ ∃ c, v = .sl c 0 n 1 ∧ G c = none ∧ Gk = hset G c cs))
theorem PvG.kp {Gk : Hp} (p : PvG G Gk v n cs) : Kp G Gk := by
  rcases p.2 with ⟨_, _, rfl⟩ | ⟨_, c, _, hc, rfl⟩
  · exact Kp.refl _
  · exact (Kp.refl _).new hc _
theorem PvG.len {Gk : Hp} (p : PvG G Gk v n cs) : lenA v = some n := by
  rcases p.2 with ⟨rfl, rfl, rfl⟩ | ⟨_, c, rfl, hc, rfl⟩ <;> rfl
theorem PvG.one {Gk : Hp} (p : PvG G Gk v n cs) : one v = true := by
  rcases p.2 with ⟨rfl, rfl, rfl⟩ | ⟨_, c, rfl, hc, rfl⟩ <;> rfl
/-- The elimination's memory. -/
def E3 (G h : Hp) (o w : Nat) (av : AV) (L : List (List Int)) (v : AV) (n : Nat) (cs : List AV) : Prop := ∃ Gk, PvG G Gk v n cs ∧ E2 Gk h o w av L

theorem hset_at {G : Hp} {b c : Nat} {xs ys : List AV} (hc : G c = some ys) (hb : G b = none) : hset G b xs c = some ys := (Kp.refl G).new hb xs c ys hc
theorem LV.del {G h : Hp} {o : Nat} {bs : Nat → Nat} {L : List (List Int)} {c : Nat} {cs : List AV} (a : LV (hset G c cs) h o bs L) (hc : G c = none) : LV G (hdel h c) o bs L := by
  have ho : o ≠ c := fun he => by have := a.no; rw [he, hset_same] at this; cases this
  have hr : ∀ i, i < L.length → bs i ≠ c := fun i hi he => by have := a.nr i hi; rw [he, hset_same] at this; cases this
  have e : ∀ x, x ≠ c → hdel h c x = h x := fun x hx => by unfold hdel; rw [if_neg hx]
  refine ⟨⟨a.lm.inj, a.lm.ne, by rw [e o ho]; exact a.lm.out, fun i hi => by rw [e _ (hr i hi)]; exact a.lm.row i hi⟩, fun b xs hb => ?_, ?_, fun i hi => ?_⟩
  · have : b ≠ c := fun he => by rw [he, hc] at hb; cases hb
    rw [e b this]
    exact a.kp b xs (hset_at hb hc)
  · have := a.no; rwa [hset_ne _ _ ho] at this
  · have := a.nr i hi; rwa [hset_ne _ _ (hr i hi)] at this
theorem LV.keep {G h h' : Hp} {o : Nat} {bs : Nat → Nat} {L : List (List Int)} {c : Nat} {cs : List AV} (a : LV G h o bs L) (k : Kp h h') (hc : h c = none) (hc2 : h' c = some cs) : LV (hset G c cs) h' o bs L := by
  obtain ⟨h1, h2⟩ := a.ob hc
  refine ⟨a.lm.mono k, fun b xs hb => ?_, by rw [hset_ne _ _ (Ne.symm h1)]; exact a.no, fun i hi => by rw [hset_ne _ _ (Ne.symm (h2 i hi))]; exact a.nr i hi⟩
  by_cases hbc : b = c
  · rw [hbc, hset_same] at hb; rw [hbc, hc2]; exact hb
  · rw [hset_ne _ _ hbc] at hb; exact k _ _ (a.kp _ _ hb)
theorem E2.del {c : Nat} (e : E2 (hset G c cs) h o w av L) (hc : G c = none) : E2 G (hdel h c) o w av L := by
  obtain ⟨bs, h1, h2⟩ := e
  exact ⟨bs, h1.del hc, h2.imp id fun ⟨o2, bs2, e1, e2, e3⟩ => ⟨o2, bs2, e1, e2.del hc, e3⟩⟩
theorem E2.keep {c : Nat} {h' : Hp} (e : E2 G h o w av L) (k : Kp h h') (hc : h c = none) (hc2 : h' c = some cs) : E2 (hset G c cs) h' o w av L := by
  obtain ⟨bs, h1, h2⟩ := e
  exact ⟨bs, h1.keep k hc hc2, h2.imp id fun ⟨o2, bs2, e1, e2, e3⟩ => ⟨o2, bs2, e1, e2.keep k hc hc2, e3⟩⟩

theorem E3.start (e : E2 G h o w av L) : E3 G h o w av L .nils 0 [] := ⟨G, ⟨rfl, .inl ⟨rfl, rfl, rfl⟩⟩, e⟩
theorem E3.app (e : E3 G h o w av L v n cs) (hb : h b = none) {x : AV} (hn : n + 1 ≤ 4294967296) {R : AV → Hp → Prop} (k : ∀ v' h', E3 G h' o w av L v' (n + 1) (cs ++ [x]) → R v' h') : appW v (.sl b 0 1 1) 1 (hset h b [x]) R := by
  obtain ⟨Gk, p, e⟩ := e
  have hl := p.1
  have fin : ∀ (F : Hp) (v' : AV) (h' : Hp), E2 G F o w av L → Own 1 F h' v' (n + 1) (cs ++ [x]) → E3 G h' o w av L v' (n + 1) (cs ++ [x]) := fun F v' h' eF ow => by
    obtain ⟨q1, q2, q3⟩ := ow
    rcases q3 with ⟨q3, _⟩ | ⟨_, c, rfl, q4, q5⟩
    · omega
    · exact ⟨hset G c (cs ++ [x]), ⟨by simpa using q2, .inr ⟨by omega, c, rfl, eF.kp.no q5, rfl⟩⟩, eF.keep q1 q5 q4⟩
  rcases p.2 with ⟨rfl, rfl, rfl⟩ | ⟨h0, c, rfl, hc, rfl⟩
  · have : cs = [] := List.eq_nil_of_length_eq_zero hl
    subst this
    exact (Own.nils 1 h).app1 (m := 1) hb rfl hn fun v' h' ow => k v' h' (fin h v' h' e ow)
  · have hF : Own 1 (hdel h c) h (.sl c 0 n 1) n cs := by
      refine ⟨fun b xs hb => ?_, by omega, .inr ⟨h0, c, rfl, e.kp _ _ (hset_same ..), by unfold hdel; rw [if_pos rfl]⟩⟩
      unfold hdel at hb
      split at hb
      · cases hb
      · exact hb
    exact hF.app1 (m := 1) hb rfl hn fun v' h' ow => k v' h' (fin _ v' h' (e.del hc) ow)
theorem E3.fin (e : E3 G h o w av L v n cs) : ∃ h2, Sub h h2 ∧ Frz h h2 v (gl n cs) ∧ E2 G h2 o w av L := by
  obtain ⟨Gk, p, e⟩ := e
  have hl := p.1
  rcases p.2 with ⟨rfl, rfl, rfl⟩ | ⟨h0, c, rfl, hc, rfl⟩
  · exact ⟨h, Sub.refl h, .id _, e⟩
  · refine ⟨hdel h c, Sub.of fun b xs hb => ?_, ?_, e.del hc⟩
    · unfold hdel at hb
      split at hb
      · cases hb
      · exact hb
    · unfold gl
      rw [if_neg (by omega)]
      exact Frz.slk (e.kp _ _ (hset_same ..)) (by unfold hdel; rw [if_pos rfl]) (by omega)
end

/-- The slots and boxes of the elimination. -/
structure EF (D : Ds) (o w c a b4 b5 b7 b14 : Nat) (av : AV) (Gx : Hp) (fr : Fr) (h : Hp) (L : List (List Int)) : Prop where
  f4 : fr 4 = .ref b4 0
  f5 : fr 5 = .ref b5 0
  f11 : fr 11 = .fn n_matrix_eliminate_1 [] [.ref b5 0, .ref b7 0]
  f13 : fr 13 = I c
  f14 : fr 14 = .ref b14 0
  g4 : Gx b4 = some [.fp (gfC D)]
  g5 : Gx b5 = some [.sl o 0 L.length 1]
  g7 : Gx b7 = some [av]
  g14 : Gx b14 = some [I a]
  st : E2 Gx h o w av L
  aw : c < w
  al : a < L.length
  ll : L.length ≤ 4294967296
  mt : ∃ W, W ≤ 4294967296 ∧ w ≤ W ∧ Mat D W L

section
variable {D : Ds} {o w c a b4 b5 b7 b14 : Nat} {av : AV} {Gx : Hp} {fr : Fr} {h : Hp} {L : List (List Int)} {K : AE → Fr → Hp → Prop}

theorem EF.next {fr' : Fr} {h' : Hp} {L' : List (List Int)} (e : EF D o w c a b4 b5 b7 b14 av Gx fr h L) (k4 : fr' 4 = fr 4) (k5 : fr' 5 = fr 5) (k11 : fr' 11 = fr 11) (k13 : fr' 13 = fr 13) (k14 : fr' 14 = fr 14) (hl : L'.length = L.length) (st : E2 Gx h' o w av L') (mt : ∀ W, Mat D W L → Mat D W L') :
    EF D o w c a b4 b5 b7 b14 av Gx fr' h' L' := by
  obtain ⟨W, h1, h2, h3⟩ := e.mt
  exact ⟨k4.trans e.f4, k5.trans e.f5, k11.trans e.f11, k13.trans e.f13, k14.trans e.f14, e.g4, by rw [hl]; exact e.g5, e.g7, e.g14, st, e.aw, by rw [hl]; exact e.al, by rw [hl]; exact e.ll, W, h1, h2, mt W h3⟩
theorem EF.ld (e : EF D o w c a b4 b5 b7 b14 av Gx fr h L) {h' : Hp} (k : Kp h h') {i : Nat} (hi : i < L.length) : ∃ b m, c < m ∧ cellsAt h' (.ref o i) 1 = some [.sl b 0 m 1] ∧ cellsAt h' (.ref b c) 1 = some [I ((L.getD i []).getD c 0)] := by
  obtain ⟨W, h1, h2, h3⟩ := e.mt
  obtain ⟨b, q1, q2⟩ := (e.st.grow k).ld hi
  have hl := h3.len hi
  refine ⟨b, _, ?_, q1, q2 c e.aw (by have := e.aw; omega)⟩
  rw [List.length_take, hl]
  have := e.aw; omega

set_option maxHeartbeats 1000000 in
/-- The other rows are cleared. -/
theorem el_b7 (r : Fd D) (e : EF D o w c a b4 b5 b7 b14 av Gx fr h L)
    (k : ∀ fr' h', EF D o w c a b4 b5 b7 b14 av Gx fr' h' (clrL D L c a L.length) → fr' 10 = fr 10 → fr' 12 = fr 12 → awp prog c_matrix_eliminateB1_8 K fr' h') : awp prog c_matrix_eliminateB1_7 K fr h := by
  unfold c_matrix_eliminateB1_7
  generalize hC : c_matrix_eliminateB1_8 = C8 at *
  have l5 := ld_one_at (e.st.kp _ _ e.g5) (k := 0) (by simp)
  simp [e.f5, l5]
  refine awp_for L.length (fun i fr' h' => E2 Gx h' o w av (clrL D L c a i) ∧ fr' 98 = I i) ⟨e.st, by simp⟩ ?_
  intro i fr' h' hin hk ⟨st, k98⟩
  have k4 := hk 4 (by decide)
  have k5 := hk 5 (by decide)
  have k10 := hk 10 (by decide)
  have k11 := hk 11 (by decide)
  have k12 := hk 12 (by decide)
  have k13 := hk 13 (by decide)
  have k14 := hk 14 (by decide)
  have k97 := hk 97 (by decide)
  simp at k4 k5 k10 k11 k12 k13 k14 k97
  clear hk
  obtain ⟨W, hW1, hW2, hM⟩ := e.mt
  have e' := e.next (fr' := fr') k4 k5 k11 k13 k14 (clrL_len D L c a i) st fun W hM => hM.clr r.toOk c a i hin
  by_cases hlt : i < L.length
  · have hcs : clrL D L c a (i + 1) = rowC D (clrL D L c a i) c a i := rfl
    have hcl := clrL_len D L c a i
    have hMi := hM.clr r.toOk c a i hin
    rw [hcs]
    generalize clrL D L c a i = M at *
    have hltL : i < L.length := hlt
    rw [← hcl] at hlt
    have hlt' : (i : Int) < M.length := by omega
    have u1 : IntKind.i64.wrap ((i : Int) + 1) = i + 1 := w64 _ (by have := e'.ll; omega)
    rw [e.f4] at k4
    rw [e.f5] at k5
    rw [e.f11] at k11
    rw [e.f13] at k13
    rw [e.f14] at k14
    rw [← hcl] at k97
    unfold c_matrix_eliminateL2_0 c_matrix_eliminateL2_1 c_matrix_eliminateL2_2
    generalize hD : c_matrix_eliminateL2_3 = D3
    simp [k97, k98, hlt]
    intro b18 hb18
    have st18 := st.add hb18 [I i]
    have k18 : Kp h' (hset h' b18 [I i]) := (Kp.refl _).new hb18 _
    have n18 := st.kp.no hb18
    have hs18 : ∀ R, stR (.ref b18 0) (I i) 1 (hset h' b18 [I 0]) R = R (.tup []) (hset h' b18 [I i]) := fun R => by
      have := sr_one (R := R) (v := I i) (k := 0) (hset_same h' b18 [I 0]) rfl rfl (by simp)
      rw [hset_hset] at this; exact this
    have l18 := ld_one_at (hset_same h' b18 [I i]) (k := 0) (by simp)
    have l5 := ld_one_at (k18 _ _ (st.kp _ _ e'.g5)) (k := 0) (by simp)
    obtain ⟨br, m, hcm, lr1, lr2⟩ := e'.ld k18 hlt
    have g4 := hset_at (xs := [I i]) e'.g4 n18
    have g5 := hset_at (xs := [I i]) e'.g5 n18
    have g7 := hset_at (xs := [I i]) e'.g7 n18
    have g14 := hset_at (xs := [I i]) e'.g14 n18
    have g18 := hset_same Gx b18 [I i]
    have hcm' : (c : Int) < m := by omega
    generalize hx : (M.getD i []).getD c 0 = x at *
    simp [hs18, l18, l5, k5, k13, hlt, hlt', lr1, lr2, hcm, hcm']
    generalize hset h' b18 [I i] = h1 at *
    generalize hG1 : hset Gx b18 [I i] = G1 at *
    have kG1 : Kp Gx G1 := hG1 ▸ (Kp.refl _).new n18 _
    clear hG1
    intro b19 hb19
    have st19 := st18.add hb19 [I x]
    have k19 : Kp h1 (hset h1 b19 [I x]) := (Kp.refl _).new hb19 _
    have n19 := st18.kp.no hb19
    have hs19 : ∀ R, stR (.ref b19 0) (I x) 1 (hset h1 b19 [I 0]) R = R (.tup []) (hset h1 b19 [I x]) := fun R => by
      have := sr_one (R := R) (v := I x) (k := 0) (hset_same h1 b19 [I 0]) rfl rfl (by simp)
      rw [hset_hset] at this; exact this
    have l19 := ld_one_at (hset_same h1 b19 [I x]) (k := 0) (by simp)
    have g4 := hset_at (xs := [I x]) g4 n19
    have g5 := hset_at (xs := [I x]) g5 n19
    have g7 := hset_at (xs := [I x]) g7 n19
    have g14 := hset_at (xs := [I x]) g14 n19
    have g18 := hset_at (xs := [I x]) g18 n19
    have g19 := hset_same G1 b19 [I x]
    have l18 := ld_one_at (k19 _ _ (st18.kp _ _ (by assumption : G1 b18 = some [I i]))) (k := 0) (by simp)
    have l14 := ld_one_at (st19.kp _ _ g14) (k := 0) (by simp)
    have kG2 : Kp Gx (hset G1 b19 [I x]) := kG1.trans ((Kp.refl _).new n19 _)
    simp [hs19, l18, l14, l19, k14]
    generalize hset h1 b19 [I x] = h2 at *
    generalize hset G1 b19 [I x] = G2 at *
    unfold rowC
    rw [hx]
    by_cases hia : i = a
    · subst hia
      simp
      subst hD
      simp [k98, u1, hltL]
      exact st19.mono kG2
    · have hia' : ¬ (i : Int) = a := by omega
      by_cases hx0 : x = 0
      · simp [hia, hia', hx0, l19]
        subst hD
        simp [k98, u1, hltL]
        exact st19.mono kG2
      · have stp := step_clear r (n := M.length) g4 g18 g19 g14 (by rw [hcl]; exact e.al) hlt hia
        have q := w_each st19 g5 g7 stp (split_clear D (D.neg x) w M i a) ⟨W, hW1, fun row hr => (hMi row hr).1⟩
        simp [hia, hia', hx0, l19, k4, k11, k14]
        refine call0 q fun v h3 ⟨hv, st3⟩ => ?_
        subst hv
        simp
        subst hD
        simp [k98, u1, hltL]
        exact st3.mono kG2
  · have : i = L.length := by omega
    subst this
    simp [k97, k98]
    exact k _ _ (e'.next (by simp) (by simp) (by simp) (by simp) (by simp) rfl st fun W hM => hM) (by simp [k10]) (by simp [k12])

/-- The pivot's column is put behind the pivots. -/
theorem el_b8 {G : Hp} {v : AV} {n : Nat} {cs : List AV} (e3 : E3 G h o w av L v n cs) (h12 : fr 12 = v) (h13 : fr 13 = I c) (hn : n + 1 ≤ 4294967296)
    (k : ∀ fr' h' v', fr' 12 = v' → fr' 10 = fr 10 → E3 G h' o w av L v' (n + 1) (cs ++ [I c]) → K .normal fr' h') : awp prog c_matrix_eliminateB1_8 K fr h := by
  unfold c_matrix_eliminateB1_8
  simp [h12, h13]
  intro b hb
  refine e3.app hb hn fun v' h' e3 => ?_
  simp
  exact k _ _ _ (by simp) (by simp) e3

theorem inv_one_iff (r : Fd D) {x : Int} (hx : D.R x) (h0 : x ≠ 0) : invD D x = 1 ↔ x = 1 := by
  have h1 := mul_inv r (x := x) (by rw [Ds.inn_of hx]; exact h0)
  constructor
  · intro h
    rwa [h, r.toOk.mul_one, Ds.inn_of hx] at h1
  · intro h
    rw [h, r.toOk.one_mul, Ds.inn_of (invR r.toOk _)] at h1
    rw [h]; exact h1

set_option maxHeartbeats 1000000 in
/-- The pivot's row is multiplied by the inverse of the pivot. -/
theorem el_b6 (r : Fd D) (e : EF D o w c a b4 b5 b7 b14 av Gx fr h L) (h0 : (L.getD a []).getD c 0 ≠ 0)
    (k : ∀ fr' h', EF D o w c a b4 b5 b7 b14 av Gx fr' h' (pvt D L a c) → fr' 10 = fr 10 → fr' 12 = fr 12 → awp prog c_matrix_eliminateB1_7 K fr' h') : awp prog c_matrix_eliminateB1_6 K fr h := by
  unfold c_matrix_eliminateB1_6
  generalize hC : c_matrix_eliminateB1_7 = C7 at *
  obtain ⟨W, hW1, hW2, hM⟩ := e.mt
  have l4 := ld_one_at (e.st.kp _ _ e.g4) (k := 0) (by simp)
  have l5 := ld_one_at (e.st.kp _ _ e.g5) (k := 0) (by simp)
  have l14 := ld_one_at (e.st.kp _ _ e.g14) (k := 0) (by simp)
  obtain ⟨br, m, hcm, lr1, lr2⟩ := e.ld (Kp.refl h) e.al
  have hcm' : (c : Int) < m := by omega
  have hal := e.al
  have hal' : (a : Int) < L.length := by omega
  have hR := hM.get r.toOk a c
  have hi1 := inv_one_iff r hR h0
  have hinv := s_Inv r ((L.getD a []).getD c 0)
  rw [if_neg (by rw [Ds.inn_of hR]; exact h0)] at hinv
  have k4 := e.f4
  have k5 := e.f5
  have k11 := e.f11
  have k13 := e.f13
  have k14 := e.f14
  have hpv : pvt D L a c = if (L.getD a []).getD c 0 ≠ 1 then L.set a (scV D (invD D ((L.getD a []).getD c 0)) (L.getD a [])) else L := rfl
  have hnx := fun (fr' : Fr) (h' : Hp) q4 q5 q11 q13 q14 st => e.next (fr' := fr') (h' := h') (L' := pvt D L a c) q4 q5 q11 q13 q14 (pvt_len ..) st fun W hM => hM.pvt r.toOk e.al c
  rw [hpv] at k hnx
  generalize (L.getD a []).getD c 0 = x at *
  simp [k4, k5, k13, k14, l4, l5, l14, hal, hal', lr1, hcm, hcm', lr2]
  refine hinv.call ?_
  simp
  intro b16 hb16
  have st16 := e.st.add hb16 [I (invD D x)]
  have n16 := e.st.kp.no hb16
  have hs16 : ∀ R, stR (.ref b16 0) (I (invD D x)) 1 (hset h b16 [I 0]) R = R (.tup []) (hset h b16 [I (invD D x)]) := fun R => by
    have := sr_one (R := R) (v := I (invD D x)) (k := 0) (hset_same h b16 [I 0]) rfl rfl (by simp)
    rw [hset_hset] at this; exact this
  have l16 := ld_one_at (hset_same h b16 [I (invD D x)]) (k := 0) (by simp)
  have g4 := hset_at (xs := [I (invD D x)]) e.g4 n16
  have g5 := hset_at (xs := [I (invD D x)]) e.g5 n16
  have g7 := hset_at (xs := [I (invD D x)]) e.g7 n16
  have g14 := hset_at (xs := [I (invD D x)]) e.g14 n16
  have g16 := hset_same Gx b16 [I (invD D x)]
  have kG : Kp Gx (hset Gx b16 [I (invD D x)]) := (Kp.refl _).new n16 _
  simp [hs16, l16]
  generalize hset h b16 [I (invD D x)] = h1 at *
  generalize hset Gx b16 [I (invD D x)] = G1 at *
  by_cases hx1 : x = 1
  · have : invD D x = 1 := hi1.2 hx1
    rw [if_neg (by simpa using hx1)] at k hnx
    simp [this]
    exact k _ _ (hnx _ _ (by simp) (by simp) (by simp) (by simp) (by simp) (st16.mono kG)) (by simp) (by simp)
  · have hne : ¬ invD D x = 1 := fun h => hx1 (hi1.1 h)
    rw [if_pos hx1] at k hnx
    have stp := step_scale r (n := L.length) g4 g16 g14 hal
    have q := w_each st16 g5 g7 stp (split_scale D (invD D x) w L a) ⟨W, hW1, fun row hr => (hM row hr).1⟩
    simp [hne, k4, k11, k14]
    refine call0 q fun v h3 ⟨hv, st3⟩ => ?_
    subst hv
    simp
    exact k _ _ (hnx _ _ (by simp) (by simp) (by simp) (by simp) (by simp) (st3.mono kG)) (by simp) (by simp)

/-- The determinant. -/
theorem el_b5 (r : Fd D) (e : EF D o w c a b4 b5 b7 b14 av Gx fr h L) {dt : Int} (h10 : fr 10 = I dt)
    (k : ∀ fr', EF D o w c a b4 b5 b7 b14 av Gx fr' h L → fr' 10 = I (D.mul dt ((L.getD a []).getD c 0)) → fr' 12 = fr 12 → awp prog c_matrix_eliminateB1_6 K fr' h) : awp prog c_matrix_eliminateB1_5 K fr h := by
  unfold c_matrix_eliminateB1_5
  generalize hC : c_matrix_eliminateB1_6 = C6 at *
  have l4 := ld_one_at (e.st.kp _ _ e.g4) (k := 0) (by simp)
  have l5 := ld_one_at (e.st.kp _ _ e.g5) (k := 0) (by simp)
  have l14 := ld_one_at (e.st.kp _ _ e.g14) (k := 0) (by simp)
  obtain ⟨br, m, hcm, lr1, lr2⟩ := e.ld (Kp.refl h) e.al
  have hcm' : (c : Int) < m := by omega
  have hal := e.al
  have hal' : (a : Int) < L.length := by omega
  have k4 := e.f4
  have k5 := e.f5
  have k13 := e.f13
  have k14 := e.f14
  have hnx := fun (fr' : Fr) q4 q5 q11 q13 q14 => e.next (fr' := fr') (h' := h) (L' := L) q4 q5 q11 q13 q14 rfl e.st fun W hM => hM
  generalize (L.getD a []).getD c 0 = x at *
  simp [k4, k5, k13, k14, l4, l5, l14, hal, hal', lr1, hcm, hcm', lr2, h10]
  refine (s_Mul r dt x).call ?_
  simp
  exact k _ (hnx _ (by simp) (by simp) (by simp) (by simp) (by simp)) (by simp) (by simp)

/-- The pivot's row is put in its place. -/
theorem el_b4 (r : Fd D) (e : EF D o w c a b4 b5 b7 b14 av Gx fr h L) {dt : Int} (h10 : fr 10 = I dt) {b15 kk : Nat} (f15 : fr 15 = .ref b15 0) (g15 : Gx b15 = some [I kk]) (hk : kk < L.length)
    (k : ∀ fr' h', EF D o w c a b4 b5 b7 b14 av Gx fr' h' (swL L a kk) → fr' 10 = I (if kk ≠ a then D.neg dt else dt) → fr' 12 = fr 12 → awp prog c_matrix_eliminateB1_5 K fr' h') : awp prog c_matrix_eliminateB1_4 K fr h := by
  unfold c_matrix_eliminateB1_4
  generalize hC : c_matrix_eliminateB1_5 = C5 at *
  obtain ⟨W, hW1, hW2, hM⟩ := e.mt
  have l4 := ld_one_at (e.st.kp _ _ e.g4) (k := 0) (by simp)
  have l14 := ld_one_at (e.st.kp _ _ e.g14) (k := 0) (by simp)
  have l15 := ld_one_at (e.st.kp _ _ g15) (k := 0) (by simp)
  have k4 := e.f4
  have k11 := e.f11
  have k14 := e.f14
  have hal := e.al
  have hnx := fun (fr' : Fr) (h' : Hp) q4 q5 q11 q13 q14 st => e.next (fr' := fr') (h' := h') (L' := swL L a kk) q4 q5 q11 q13 q14 (swL_len ..) st fun W hM => hM.sw hal hk
  by_cases hka : kk = a
  · subst hka
    rw [if_neg (by simp)] at k
    rw [swL_self] at k hnx
    simp [k14, f15, l14, l15]
    exact k _ _ (hnx _ _ (by simp) (by simp) (by simp) (by simp) (by simp) e.st) (by simp [h10]) (by simp)
  · rw [if_pos hka] at k
    have stp := step_swap (n := L.length) g15 e.g14 hk hal
    have q := w_each e.st e.g5 e.g7 stp (split_sw w L a kk) ⟨W, hW1, fun row hr => (hM row hr).1⟩
    have hka' : ¬ (kk : Int) = a := by omega
    simp [k14, f15, l14, l15, hka, hka', k11]
    refine call0 q fun v h3 ⟨hv, st3⟩ => ?_
    subst hv
    have l4 := ld_one_at (st3.kp _ _ e.g4) (k := 0) (by simp)
    simp [k4, l4, h10]
    refine (s_Neg r dt).call ?_
    simp
    exact k _ _ (hnx _ _ (by simp) (by simp) (by simp) (by simp) (by simp) st3) (by simp) (by simp)

theorem fnd_eq {L : List (List Int)} {c m a k : Nat} (h1 : a ≤ k) (h2 : k ≤ a + m) (hz : ∀ i, a ≤ i → i < k → (L.getD i []).getD c 0 = 0) (hk : k < a + m → (L.getD k []).getD c 0 ≠ 0) : fnd L c m a = k := by
  obtain ⟨f1, f2, f3, f4⟩ := fnd_spec (L := L) (c := c) m a
  apply Classical.byContradiction
  intro hne
  rcases Nat.lt_or_gt_of_ne hne with hl | hl
  · exact f4 (by omega) (hz _ f1 hl)
  · exact hk (by omega) (f3 k h1 hl)

theorem EF.more {G' : Hp} {h' : Hp} (e : EF D o w c a b4 b5 b7 b14 av Gx fr h L) (k : Kp Gx G') (st : E2 G' h' o w av L) : EF D o w c a b4 b5 b7 b14 av G' fr h' L :=
  ⟨e.f4, e.f5, e.f11, e.f13, e.f14, k _ _ e.g4, k _ _ e.g5, k _ _ e.g7, k _ _ e.g14, st, e.aw, e.al, e.ll, e.mt⟩

set_option maxHeartbeats 1000000 in
/-- A row with an entry in the column is looked for. -/
theorem el_b2 {b15 : Nat} (h15 : Gx b15 = none) (f15 : fr 15 = .ref b15 0) (e : EF D o w c a b4 b5 b7 b14 av Gx fr h L) (st : E2 (hset Gx b15 [I a]) h o w av L)
    (k : ∀ fr' h', EF D o w c a b4 b5 b7 b14 av (hset Gx b15 [I (fnd L c (L.length - a) a : Nat)]) fr' h' L → fr' 10 = fr 10 → fr' 12 = fr 12 → fr' 15 = .ref b15 0 → awp prog c_matrix_eliminateB1_3 K fr' h') : awp prog c_matrix_eliminateB1_2 K fr h := by
  unfold c_matrix_eliminateB1_2
  generalize hC : c_matrix_eliminateB1_3 = C3 at *
  have hal := e.al
  have hll := e.ll
  simp
  refine awp_for (L.length - a) (fun j fr' h' => E2 (hset Gx b15 [I (a + j : Nat)]) h' o w av L ∧ ∀ i, a ≤ i → i < a + j → (L.getD i []).getD c 0 = 0) ⟨st, fun i h1 h2 => by omega⟩ ?_
  intro j fr' h' hjn hk ⟨stj, hz⟩
  have k4 := hk 4 (by decide)
  have k5 := hk 5 (by decide)
  have k10 := hk 10 (by decide)
  have k11 := hk 11 (by decide)
  have k12 := hk 12 (by decide)
  have k13 := hk 13 (by decide)
  have k14 := hk 14 (by decide)
  have k15 := hk 15 (by decide)
  clear hk
  have kG : ∀ z, Kp Gx (hset Gx b15 [z]) := fun z => (Kp.refl _).new h15 _
  have e' := (e.more (kG _) (stj.mono (Kp.refl _))).next (fr' := fr') (h' := h') k4 k5 k11 k13 k14 rfl stj fun W hM => hM
  rw [f15] at k15
  obtain ⟨q, hq⟩ : ∃ q, q = a + j := ⟨_, rfl⟩
  have hq1 : a + (j + 1) = q + 1 := by omega
  rw [← hq] at stj hz e'
  have l15 := ld_one_at (stj.kp _ _ (hset_same ..)) (k := 0) (by simp)
  have l5 := ld_one_at (e'.st.kp _ _ e'.g5) (k := 0) (by simp)
  have p5 := e'.f5
  have p13 := e'.f13
  rw [hq1]
  by_cases hlt : q < L.length
  · obtain ⟨br, m, hcm, lr1, lr2⟩ := e'.ld (Kp.refl h') hlt
    have hcm' : (c : Int) < m := by omega
    have hlt' : (q : Int) < L.length := by omega
    have hfin := fun (hy : (L.getD q []).getD c 0 ≠ 0) => fnd_eq (L := L) (c := c) (m := L.length - a) (a := a) (k := q) (by omega) (by omega) hz fun _ => hy
    have hstep := fun (hy : (L.getD q []).getD c 0 = 0) => (fun i h1 h2 => by
      by_cases hiq : i = q
      · rw [hiq]; exact hy
      · exact hz i h1 (by omega) : ∀ i, a ≤ i → i < q + 1 → (L.getD i []).getD c 0 = 0)
    generalize (L.getD q []).getD c 0 = y at *
    by_cases hy : y = 0
    · have s15 := fun R => sr_one (R := R) (v := I ((q : Int) + 1)) (k := 0) (stj.kp _ _ (hset_same ..)) rfl rfl (by simp)
      have u1 : IntKind.i64.wrap ((q : Int) + 1) = (q : Int) + 1 := w64 _ (by omega)
      have stn := stj.set (hset_same Gx b15 [I (q : Int)]) [I ((q : Int) + 1)]
      rw [hset_hset] at stn
      have hjl : j < L.length - a := by omega
      simp [k15, l15, p5, l5, hlt, hlt', p13, hcm, hcm', lr1, lr2, hy, u1]
      simp only [List.set_cons_zero] at s15
      simp [s15, hjl]
      exact ⟨stn, by simpa using hstep hy⟩
    · have hk := hfin hy
      rw [hk] at k
      simp [k15, l15, p5, l5, hlt, hlt', p13, hcm, hcm', lr1, lr2, hy]
      exact k _ _ (e'.next (by simp) (by simp) (by simp) (by simp) (by simp) rfl stj fun W hM => hM) (by simp [k10]) (by simp [k12]) (by simp [k15])
  · have hlt' : ¬ (q : Int) < L.length := by omega
    have hk := fnd_eq (L := L) (c := c) (m := L.length - a) (a := a) (k := q) (by omega) (by omega) hz fun h => by omega
    rw [hk] at k
    simp [k15, l15, p5, l5, hlt, hlt']
    exact k _ _ (e'.next (by simp) (by simp) (by simp) (by simp) (by simp) rfl stj fun W hM => hM) (by simp [k10]) (by simp [k12]) (by simp [k15])

set_option maxHeartbeats 1000000 in
/-- A column. -/
theorem el_b0 (r : Fd D) {G : Hp} {s : ES} {v : AV} (f4 : fr 4 = .ref b4 0) (f5 : fr 5 = .ref b5 0) (f11 : fr 11 = .fn n_matrix_eliminate_1 [] [.ref b5 0, .ref b7 0]) (f13 : fr 13 = I c) (f10 : fr 10 = I s.det) (f12 : fr 12 = v)
    (g4 : G b4 = some [.fp (gfC D)]) (g5 : G b5 = some [.sl o 0 s.L.length 1]) (g7 : G b7 = some [av]) (e3 : E3 G h o w av s.L v s.pv.length (ints (up s.pv))) (aw : c < w) (al : s.pv.length < s.L.length) (ll : s.L.length ≤ 4294967296)
    (mt : ∃ W, W ≤ 4294967296 ∧ w ≤ W ∧ Mat D W s.L) (hc : c < 4611686018427387904)
    (kn : ∀ fr' h', fr' 10 = I (est D c s).det → E3 G h' o w av (est D c s).L (fr' 12) (est D c s).pv.length (ints (up (est D c s).pv)) → K .normal fr' h')
    (kx : est D c s = s → ∀ fr' h', fr' 10 = fr 10 → fr' 12 = fr 12 → E3 G h' o w av s.L v s.pv.length (ints (up s.pv)) → K (.exit 1) fr' h') : awp prog c_matrix_eliminateB1_0 K fr h := by
  obtain ⟨L, pv, det⟩ := s
  simp only at *
  obtain ⟨Gk, pg, st⟩ := e3
  have kGk := pg.kp
  unfold c_matrix_eliminateB1_0 c_matrix_eliminateB1_1
  generalize hC : c_matrix_eliminateB1_2 = C2
  have hvl := pg.len
  simp [f12, hvl]
  intro b14 hb14
  have n14 := st.kp.no hb14
  have st14 := st.add hb14 [I (pv.length : Int)]
  have hs14 : ∀ R, stR (.ref b14 0) (I (pv.length : Int)) 1 (hset h b14 [I 0]) R = R (.tup []) (hset h b14 [I (pv.length : Int)]) := fun R => by
    have := sr_one (R := R) (v := I (pv.length : Int)) (k := 0) (hset_same h b14 [I 0]) rfl rfl (by simp)
    rw [hset_hset] at this; exact this
  have l14 := ld_one_at (hset_same h b14 [I (pv.length : Int)]) (k := 0) (by simp)
  have kG1 : Kp Gk (hset Gk b14 [I (pv.length : Int)]) := (Kp.refl _).new n14 _
  simp [hs14, l14]
  generalize hset h b14 [I (pv.length : Int)] = h1 at *
  have g14 := hset_same Gk b14 [I (pv.length : Int)]
  have g4' := kG1 _ _ (kGk _ _ g4)
  have g5' := kG1 _ _ (kGk _ _ g5)
  have g7' := kG1 _ _ (kGk _ _ g7)
  generalize hset Gk b14 [I (pv.length : Int)] = G1 at *
  intro b15 hb15
  have n15 := st14.kp.no hb15
  have st15 := st14.add hb15 [I (pv.length : Int)]
  have st15' := st14.junk hb15 [I (pv.length : Int)]
  have hs15 : ∀ R, stR (.ref b15 0) (I (pv.length : Int)) 1 (hset h1 b15 [I 0]) R = R (.tup []) (hset h1 b15 [I (pv.length : Int)]) := fun R => by
    have := sr_one (R := R) (v := I (pv.length : Int)) (k := 0) (hset_same h1 b15 [I 0]) rfl rfl (by simp)
    rw [hset_hset] at this; exact this
  simp [hs15]
  generalize hset h1 b15 [I (pv.length : Int)] = h2 at *
  subst hC
  have kG2 : ∀ z, Kp Gk (hset G1 b15 [z]) := fun z => kG1.trans ((Kp.refl _).new n15 _)
  have hest : est D c ⟨L, pv, det⟩ = (if pv.length < L.length ∧ fnd L c (L.length - pv.length) pv.length < L.length then
    ⟨clrL D (pvt D (swL L pv.length (fnd L c (L.length - pv.length) pv.length)) pv.length c) c pv.length L.length, pv ++ [c],
      D.mul (if fnd L c (L.length - pv.length) pv.length ≠ pv.length then D.neg det else det) (((swL L pv.length (fnd L c (L.length - pv.length) pv.length)).getD pv.length []).getD c 0)⟩
  else ⟨L, pv, det⟩) := rfl
  rw [hest] at kn kx
  clear hest
  obtain ⟨q1, q2, q3, q4⟩ := fnd_spec (L := L) (c := c) (L.length - pv.length) pv.length
  refine el_b2 (D := D) (o := o) (w := w) (c := c) (a := pv.length) (b4 := b4) (b5 := b5) (b7 := b7) (b14 := b14) (av := av) (Gx := G1) (L := L) n15 (by simp) ⟨by simp [f4], by simp [f5], by simp [f11], by simp [f13], by simp, g4', g5', g7', g14, st15', aw, al, ll, mt⟩ st15 ?_
  intro fr2 h3 e2 k10 k12 k15
  simp at k10 k12
  generalize hk : fnd L c (L.length - pv.length) pv.length = kk at *
  have g15 := hset_same G1 b15 [I (kk : Int)]
  have l15 := ld_one_at (e2.st.kp _ _ g15) (k := 0) (by simp)
  have l5 := ld_one_at (e2.st.kp _ _ e2.g5) (k := 0) (by simp)
  have p5 := e2.f5
  unfold c_matrix_eliminateB1_3
  generalize hC : c_matrix_eliminateB1_4 = C4
  by_cases hkn : kk < L.length
  case neg =>
    have : kk = L.length := by omega
    rw [if_neg (by omega)] at kx
    simp [k15, l15, p5, l5, this]
    exact kx rfl _ _ (by simp [k10]) (by simp [k12, f12]) ⟨Gk, pg, e2.st.mono (kG2 _)⟩
  have hkn' : ¬ (kk : Int) = L.length := by omega
  have hkn2 : ¬ kk = L.length := by omega
  rw [if_pos ⟨al, hkn⟩] at kn
  simp only at kn
  simp [k15, l15, p5, l5, hkn', hkn2]
  subst hC
  refine el_b4 r (a := pv.length) (dt := det) (kk := kk) (b15 := b15) (Gx := hset G1 b15 [I (kk : Int)]) (L := L) (e2.next (by simp) (by simp) (by simp) (by simp) (by simp) rfl e2.st fun W hM => hM) (by simp [k10, f10]) (by simp [k15]) g15 hkn ?_
  intro fr3 h4 e4 j10 j12
  refine el_b5 r e4 j10 ?_
  intro fr4 e5 i10 i12
  have hpiv : ((swL L pv.length kk).getD pv.length []).getD c 0 ≠ 0 := by
    rw [swL_get al hkn]
    by_cases hek : pv.length = kk
    · rw [if_pos hek, hek]; exact q4 (by omega)
    · rw [if_neg hek, if_pos rfl]; exact q4 (by omega)
  refine el_b6 r e5 hpiv ?_
  intro fr5 h6 e6 m10 m12
  refine el_b7 r e6 ?_
  intro fr6 h7 e7 n10 n12
  rw [pvt_len, swL_len] at e7
  refine el_b8 (v := v) (n := pv.length) (cs := ints (up pv)) ⟨Gk, pg, e7.st.mono (kG2 _)⟩ (by simp at j12; rw [n12, m12, i12, j12, k12, f12]) e7.f13 (by omega) ?_
  intro fr7 h8 v' z12 z10 e8
  refine kn _ _ ?_ ?_
  · rw [z10, n10, m10, i10]
  · rw [z12, List.length_append, List.length_singleton, up, List.map_append, ints_append]
    exact e8

theorem elim_stop {L : List (List Int)} {c : Nat} (h : L.length ≤ (elim D L c).pv.length) : ∀ k, elim D L (c + k) = elim D L c
  | 0 => rfl
  | k + 1 => by
    have ih := elim_stop h k
    show est D (c + k) (elim D L (c + k)) = _
    rw [ih]
    unfold est
    rw [if_neg]
    rw [elim_len]; omega
end

set_option maxHeartbeats 1000000 in
/-- The elimination. -/
theorem w_eliminate {D : Ds} (r : Fd D) {G h : Hp} {o w W : Nat} {av : AV} {L : List (List Int)} (e : E2 G h o w av L) (hM : Mat D W L) (hW : W ≤ 4294967296) (hw : w ≤ W) (hl : L.length ≤ 4294967296) {cols : Nat} (hc : cols ≤ w) :
    Spec prog n_matrix_eliminate [.fp (gfC D), .sl o 0 L.length 1, I cols, av] h (fun v h' => v = .tup [gil (up (elim D L cols).pv), I (elim D L cols).det] ∧ E2 G h' o w av (elim D L cols).L) := by
  have main : ∀ (C5 : SC), C5 = c_matrix_eliminate_5 → ∀ b4, h b4 = none → ∀ b5, hset h b4 [.fp (gfC D)] b5 = none → ∀ b7, hset (hset h b4 [.fp (gfC D)]) b5 [.sl o 0 L.length 1] b7 = none →
      ∀ fr : Fr, fr 2 = I cols → fr 4 = .ref b4 0 → fr 5 = .ref b5 0 → fr 11 = .fn n_matrix_eliminate_1 [] [.ref b5 0, .ref b7 0] → fr 13 = I 0 → fr 10 = I 1 → fr 12 = .nils →
      ∀ K0 : AE → Fr → Hp → Prop, (∀ fr' h', awp prog C5 (fun e fr' h' => (e = .normal ∨ e = .ret) ∧ ∃ v, resA fr' h' [.t 8, .t 9] = some v ∧ ∃ h2 v2, Sub h' h2 ∧ Frz h' h2 v v2 ∧ v2 = .tup [gil (up (elim D L cols).pv), I (elim D L cols).det] ∧ E2 G h2 o w av (elim D L cols).L) fr' h' → K0 .normal fr' h') →
      awp prog (.loop c_matrix_eliminateL0_0) (inBlk 0 K0) fr (hset (hset (hset h b4 [.fp (gfC D)]) b5 [.sl o 0 L.length 1]) b7 [av]) := by
    intro C5 hC b4 hb4 b5 hb5 b7 hb7 fr q2 q4 q5 q11 q13 q10 q12 K0 hK0
    have e4 := e.add hb4 [.fp (gfC D)]
    have n4 := e.kp.no hb4
    have e5 := e4.add hb5 [.sl o 0 L.length 1]
    have n5 := e4.kp.no hb5
    have e7 := e5.add hb7 [av]
    have n7 := e5.kp.no hb7
    have g4 := hset_at (xs := [av]) (hset_at (xs := [.sl o 0 L.length 1]) (hset_same G b4 [.fp (gfC D)]) n5) n7
    have g5 := hset_at (xs := [av]) (hset_same (hset G b4 [.fp (gfC D)]) b5 [.sl o 0 L.length 1]) n7
    have g7 := hset_same (hset (hset G b4 [.fp (gfC D)]) b5 [.sl o 0 L.length 1]) b7 [av]
    have kG : Kp G (hset (hset (hset G b4 [.fp (gfC D)]) b5 [.sl o 0 L.length 1]) b7 [av]) := (((Kp.refl G).new n4 [.fp (gfC D)]).trans ((Kp.refl _).new n5 [.sl o 0 L.length 1])).trans ((Kp.refl _).new n7 [av])
    generalize hset (hset (hset h b4 [.fp (gfC D)]) b5 [.sl o 0 L.length 1]) b7 [av] = h1 at *
    generalize hset (hset (hset G b4 [.fp (gfC D)]) b5 [.sl o 0 L.length 1]) b7 [av] = G1 at *
    -- what is left behind the loop
    have fin : ∀ fr' h', fr' 10 = I (elim D L cols).det → E3 G1 h' o w av (elim D L cols).L (fr' 12) (elim D L cols).pv.length (ints (up (elim D L cols).pv)) → K0 .normal fr' h' := by
      intro fr' h' f10 e3
      refine hK0 _ _ ?_
      obtain ⟨h2, s1, s2, s3⟩ := e3.fin
      subst hC
      simp [f10]
      refine ⟨h2, s1, _, ?_, rfl, s3.mono kG⟩
      refine .tup _ _ rfl (frz2 ?_ (.id _))
      rw [gil, show (up (elim D L cols).pv).length = (elim D L cols).pv.length by simp [up]]
      exact s2
    refine awp_for cols (fun c fr' h' => fr' 13 = I c ∧ fr' 10 = I (elim D L c).det ∧ E3 G1 h' o w av (elim D L c).L (fr' 12) (elim D L c).pv.length (ints (up (elim D L c).pv))) ⟨by simp [q13], by simp [elim, q10], by simpa [elim, ints, q12] using E3.start e7⟩ ?_
    intro c fr' h' hcn hk ⟨k13, k10, e3⟩
    have k2 := hk 2 (by decide)
    have k4 := hk 4 (by decide)
    have k5 := hk 5 (by decide)
    have k11 := hk 11 (by decide)
    rw [q2] at k2
    rw [q4] at k4
    rw [q5] at k5
    rw [q11] at k11
    clear hk
    have hsp := hM.elim r.toOk c
    have hln := elim_len D L c
    have l5 : cellsAt h' (.ref b5 0) 1 = some [.sl o 0 L.length 1] := by
      obtain ⟨Gk, pg, st⟩ := e3
      exact ld_one_at (st.kp _ _ (pg.kp _ _ g5)) (k := 0) (by simp)
    have hvl : lenA (fr' 12) = some (elim D L c).pv.length := by obtain ⟨Gk, pg, st⟩ := e3; exact pg.len
    unfold c_matrix_eliminateL0_0
    generalize hD : c_matrix_eliminateL0_1 = D1
    by_cases hlt : c < cols
    case neg =>
      have : c = cols := by omega
      subst this
      simp [k2, k13]
      exact fin _ _ (by simp [k10]) (by simpa using e3)
    by_cases hpl : (elim D L c).pv.length < L.length
    case neg =>
      have hs := elim_stop (by omega : L.length ≤ (elim D L c).pv.length) (cols - c)
      rw [show c + (cols - c) = cols by omega] at hs
      have hpl' : ¬ ((elim D L c).pv.length : Int) < L.length := by omega
      simp [k2, k13, k5, hlt, hvl, l5, hpl, hpl']
      exact fin _ _ (by simp [k10, hs]) (by simpa [hs] using e3)
    have hpl' : ((elim D L c).pv.length : Int) < L.length := by omega
    have u1 : IntKind.i64.wrap ((c : Int) + 1) = c + 1 := w64 _ (by omega)
    simp [k2, k13, k5, hlt, hvl, l5, hpl, hpl']
    subst hD
    unfold c_matrix_eliminateL0_1
    generalize hD : c_matrix_eliminateL0_2 = D2
    generalize hB : c_matrix_eliminateB1_0 = B0
    simp
    subst hB
    refine awp_keepK ?_
    have hstep : elim D L (c + 1) = est D c (elim D L c) := rfl
    refine el_b0 r (b4 := b4) (b5 := b5) (b7 := b7) (o := o) (w := w) (c := c) (av := av) (G := G1) (s := elim D L c) (v := fr' 12) (by simp [k4]) (by simp [k5]) (by simp [k11]) (by simp [k13]) (by simp [k10]) (by simp) g4 (by rw [hln]; exact g5) g7 (by simpa using e3) (by omega) (by omega) (by omega) ⟨W, hW, hw, hsp⟩ (by omega) ?_ ?_
    · intro fr2 h2 z10 z3 kp
      have z13 := kp 13 (by decide)
      simp [k13] at z13
      subst hD
      simp [z13, u1, hlt]
      rw [hstep]
      exact ⟨z10, by simpa using z3⟩
    · intro heq fr2 h2 z10 z12 z3 kp
      have z13 := kp 13 (by decide)
      simp [k13, k10] at z13 z10 z12
      subst hD
      simp [z13, u1, hlt]
      rw [hstep, heq]
      exact ⟨z10, by simpa [z12] using z3⟩
  refine Spec.fz (spec_of cf_matrix_eliminate rfl ?_)
  unfold c_matrix_eliminate_0 c_matrix_eliminate_1 c_matrix_eliminate_2 c_matrix_eliminate_3 c_matrix_eliminate_4
  generalize hC : c_matrix_eliminate_5 = C5
  have hav : av = .nils ∨ ∃ o2, av = .sl o2 0 L.length 1 := by
    obtain ⟨bs, _, ha⟩ := e
    rcases ha with rfl | ⟨o2, bs2, rfl, _⟩
    · exact .inl rfl
    · exact .inr ⟨o2, rfl⟩
  rcases hav with rfl | ⟨o2, rfl⟩
  · simp
    intro b4 hb4 b5 hb5 b7 hb7
    exact main C5 hC.symm b4 hb4 b5 hb5 b7 hb7 _ (by simp) (by simp) (by simp) (by simp) (by simp) (by simp) (by simp) _ (fun fr' h' a => by simpa using a)
  · simp
    intro b4 hb4 b5 hb5 b7 hb7
    exact main C5 hC.symm b4 hb4 b5 hb5 b7 hb7 _ (by simp) (by simp) (by simp) (by simp) (by simp) (by simp) (by simp) _ (fun fr' h' a => by simpa using a)
end Go.AM.Ytmihmgnjnedfcab
end

section
/- Contracts of functions: clone, unit, canon. -/
set_option maxRecDepth 100000
set_option linter.unusedSimpArgs false
set_option linter.unusedVariables false
namespace Go.AM.Ytmihmgnjnedfcab
open Go Go.AM
attribute [local simp ↓] awp_seq awp_reg awp_skip awp_cond' awp_block awp_exit awp_ret awp_fz thenW_normal thenW_exit thenW_ret inBlk_normal inBlk_exit inBlk_ret aops_cons' contA_ap aops_nil e_mv e_guard' e_pick' e_ld' e_app e_cpy e_st' e_call callW_f updO_some updO_none e_bin' e_isnil' e_fadr' e_iadr' e_iarr' e_len' e_build' e_mkf' e_nc' e_not' e_neg' e_cvt' e_slc' e_fld' e_ext' e_min' e_eqs' e_new e_box e_mkl e_mks
attribute [local simp] upd_apply ev_t ev_k ev_f binA_add binA_sub binA_mul binA_quo binA_rem binA_eql binA_neq binA_lss binA_leq binA_gtr binA_geq det mem frame0 keeps_nil iadrA_sl fadrA_ref fadrA_fp ldv_agg ldv_one cells_base hset_same hset_hset lenA_fs lenA_sl lenA_nils zeros_ints ints_length one_base one_nilp one_nils one_ref one_sl one_fp one_fs one_fn gl_one resA resOf bound natOf afill splice AV.cells cells_agg bindR_some condR_true condR_false guardR_tup guardR_true guardR_true' guardR_false guardR_false' allocW_some pickA_true pickA_false
attribute [local simp ↓] callW_t CallV_fn
open Go.FM

/-- A matrix that is being made: the first k rows stand. -/
structure PM (h h' : Hp) (o : Nat) (bs : Nat → Nat) (k : Nat) (L : List (List Int)) : Prop where
  kp : Kp h h'
  ho : h o = none
  out : h' o = some (rowsC bs (L.take k) ++ List.replicate (L.length - k) .nils)
  row : ∀ i, i < k → h' (bs i) = some (ints (L.getD i [])) ∧ h (bs i) = none ∧ bs i ≠ o
  inj : ∀ i j, i < k → j < k → i ≠ j → bs i ≠ bs j
section
variable {h h' : Hp} {o k : Nat} {bs : Nat → Nat} {L : List (List Int)}
theorem PM.start (hb : h o = none) (L : List (List Int)) : PM h (hset h o (List.replicate L.length .nils)) o (fun _ => 0) 0 L :=
  ⟨(Kp.refl h).new hb _, hb, by rw [hset_same]; simp [rowsC], fun i hi => by omega, fun i j hi => by omega⟩
theorem PM.grow (p : PM h h' o bs k L) {h2 : Hp} (kp : Kp h' h2) : PM h h2 o bs k L := ⟨p.kp.trans kp, p.ho, kp _ _ p.out, fun i hi => ⟨kp _ _ (p.row i hi).1, (p.row i hi).2⟩, p.inj⟩
theorem PM.put (p : PM h h' o bs k L) (hk : k < L.length) {b : Nat} {h2 : Hp} (kp : Kp h' h2) (hb : h' b = none) (hb2 : h2 b = some (ints (L.getD k []))) :
    (∀ R : AV → Hp → Prop, stR (.ref o k) (.sl b 0 (L.getD k []).length 1) 1 h2 R = R (.tup []) (hset h2 o (rowsC (fun i => if i = k then b else bs i) (L.take (k + 1)) ++ List.replicate (L.length - (k + 1)) .nils))) ∧
    PM h (hset h2 o (rowsC (fun i => if i = k then b else bs i) (L.take (k + 1)) ++ List.replicate (L.length - (k + 1)) .nils)) o (fun i => if i = k then b else bs i) (k + 1) L := by
  have hbo : b ≠ o := fun he => by rw [he, p.out] at hb; cases hb
  have hbr : ∀ i, i < k → bs i ≠ b := fun i hi he => by have := (p.row i hi).1; rw [he, hb] at this; cases this
  have hlen : (L.take k).length = k := by rw [List.length_take]; omega
  refine ⟨fun R => ?_, ⟨(p.kp.trans kp).set p.ho _, p.ho, hset_same .., fun i hi => ?_, fun i j hi hj hij => ?_⟩⟩
  · rw [sr_one (kp _ _ p.out) rfl rfl (by rw [List.length_append, rowsC_len, hlen, List.length_replicate]; omega)]
    congr 2
    have e : rowsC (fun i => if i = k then b else bs i) (L.take (k + 1)) = rowsC bs (L.take k) ++ [.sl b 0 (L.getD k []).length 1] := by
      rw [take_getD (d := []) hk]
      have := rowsC_snoc bs (L.take k) (L.getD k []) b
      rw [hlen] at this
      exact this
    rw [e, show L.length - k = (L.length - (k + 1)) + 1 by omega, List.replicate_succ]
    rw [List.set_append_right _ _ (by rw [rowsC_len, hlen]; exact Nat.le_refl _), rowsC_len, hlen, Nat.sub_self]
    simp
  · try dsimp only
    by_cases h1 : i = k
    · subst h1; rw [if_pos rfl, hset_ne _ _ hbo]; exact ⟨hb2, p.kp.no hb, hbo⟩
    · rw [if_neg h1, hset_ne _ _ (p.row i (by omega)).2.2]
      have := p.row i (by omega)
      exact ⟨kp _ _ this.1, this.2⟩
  · try dsimp only
    by_cases h1 : i = k
    · rw [if_pos h1, if_neg (by omega)]; exact Ne.symm (hbr j (by omega))
    · rw [if_neg h1]
      by_cases h2 : j = k
      · rw [if_pos h2]; exact hbr i (by omega)
      · rw [if_neg h2]; exact p.inj i j (by omega) (by omega) hij
theorem PM.done (p : PM h h' o bs L.length L) : LV h h' o bs L := by
  have e := p.out
  rw [List.take_length, Nat.sub_self, List.replicate_zero, List.append_nil] at e
  exact ⟨⟨p.inj, fun i hi => (p.row i hi).2.2, e, fun i hi => (p.row i hi).1⟩, p.kp, p.ho, fun i hi => (p.row i hi).2.1⟩
end

theorem zeros_nils (n : Nat) : zeros n [.nils] = List.replicate n .nils := by simp [zeros]

theorem w_Clone {v : AV} {l : List Int} (hv : IL v l) (h0 : 0 < l.length) (hl : l.length ≤ 4294967296) (h : Hp) : Spec prog n_slices_Clone_int_int [v] h (LiveR h l) := by
  refine spec_of cf_slices_Clone_int_int rfl ?_
  have hnil : isNil v = some false := by
    rcases hv.2 with ⟨_, h1⟩ | rfl
    · omega
    · rfl
  simp [hnil]
  intro b5 hb5
  refine app_empty (hset_same ..) hv hl fun b' hb' => ?_
  have hb2 : h b' = none := by
    rcases hb' with rfl | hb'
    · exact hb5
    · by_cases e : b' = b5
      · rw [e]; exact hb5
      · rwa [hset_ne _ _ e] at hb'
  simp
  exact ⟨((Kp.refl h).new hb5 _).set hb2 _, b', hb2, rfl, hset_same ..⟩

theorem s_Clone0 {v : AV} (hv : IL v []) : Pure prog n_slices_Clone_int_int [v] v := by
  refine pure_of cf_slices_Clone_int_int rfl fun h => ?_
  rcases hv.2 with ⟨rfl, _⟩ | rfl
  · simp [isNil]
    exact RetP.same
  · simp [isNil]
    intro b5 hb5
    refine app_empty (hset_same ..) (IL.fs []) (by simp) fun b' hb' => ?_
    have hb2 : h b' = none := by
      rcases hb' with rfl | hb'
      · exact hb5
      · by_cases e : b' = b5
        · rw [e]; exact hb5
        · rwa [hset_ne _ _ e] at hb'
    simp
    exact ⟨_, (((Kp.refl h).new hb5 _).set hb2 _).sub, .sl0 _ _ _, rfl⟩

/-- A copy whose rows are live. -/
def LiveV (h : Hp) (L : List (List Int)) (v : AV) (h' : Hp) : Prop := ∃ o bs, v = .sl o 0 L.length 1 ∧ LV h h' o bs L

theorem w_clone {v : AV} {L : List (List Int)} (hv : ML v L) (hL : L.length ≤ 4294967296) (hw : ∀ row ∈ L, 0 < row.length ∧ row.length ≤ 4294967296) (h : Hp) : Spec prog n_matrix_clone [v] h (LiveV h L) := by
  refine spec_of cf_matrix_clone rfl ?_
  have hL' : (L.length : Int) ≤ 4294967296 := by omega
  simp [hv.len, hL', one_nils]
  intro b hb
  rw [zeros_nils]
  refine awp_for L.length (fun k fr' h' => (∃ bs, PM h h' b bs k L) ∧ fr' 11 = I k) ⟨⟨_, PM.start hb L⟩, by simp⟩ ?_
  intro k fr' h' hkn hk ⟨⟨bs, p⟩, k11⟩
  have k3 := hk 3 (by decide)
  have k9 := hk 9 (by decide)
  have k10 := hk 10 (by decide)
  simp at k3 k9 k10
  clear hk
  by_cases hlt : k < L.length
  · have u1 : IntKind.i64.wrap ((k : Int) + 1) = k + 1 := w64 _ (by omega)
    obtain ⟨pa, row, hpa, hpl, hrow⟩ := hv.rd hlt
    have hm := hw _ (mem_getD (d := []) hlt)
    have hcl := w_Clone hrow hm.1 hm.2 h'
    have hput := fun (b2 : Nat) (h2 : Hp) => p.put hlt (b := b2) (h2 := h2)
    generalize L.getD k [] = lk at *
    simp [k3, k9, k10, k11, hlt, hpa, hpl]
    refine call0 hcl fun v' h2 ⟨kp, b2, hb2, hv', hb3⟩ => ?_
    subst hv'
    obtain ⟨s1, s2⟩ := hput _ _ kp hb2 hb3
    simp [k11, u1, hlt, s1]
    exact ⟨_, s2⟩
  · have : k = L.length := by omega
    subst this
    simp [k3, k10, k11]
    exact ⟨b, bs, rfl, p.done⟩

/-- A copy of empty rows. -/
theorem s_clone0 {v : AV} {L : List (List Int)} (hv : ML v L) (hL : L.length ≤ 4294967296) (hw : ∀ row ∈ L, row.length = 0) : ∃ cells, Pure prog n_matrix_clone [v] (.fs L.length cells) ∧ ML (.fs L.length cells) L := by
  obtain ⟨cells, hs, hc⟩ := hv
  have hv : ML v L := ⟨cells, hs, hc⟩
  have hcl := hs.1
  rw [Nat.mul_one] at hcl
  refine ⟨cells, pure_of cf_matrix_clone rfl fun h => ?_, ⟨cells, ⟨hs.1, .inr rfl⟩, hc⟩⟩
  have hL' : (L.length : Int) ≤ 4294967296 := by omega
  simp [hv.len, hL', one_nils]
  intro b hb
  rw [zeros_nils]
  refine awp_for L.length (fun k fr' h' => Kp h h' ∧ h' b = some (cells.take k ++ List.replicate (L.length - k) .nils) ∧ fr' 11 = I k) ⟨(Kp.refl h).new hb _, by simp [hset_same], by simp⟩ ?_
  intro k fr' h' hkn hk ⟨kp, hbk, k11⟩
  have k3 := hk 3 (by decide)
  have k9 := hk 9 (by decide)
  have k10 := hk 10 (by decide)
  simp at k3 k9 k10
  clear hk
  by_cases hlt : k < L.length
  · have u1 : IntKind.i64.wrap ((k : Int) + 1) = k + 1 := w64 _ (by omega)
    have hia := hs.iadr (i := k) ⟨by omega, by omega⟩
    rw [Nat.mul_one, Int.toNat_natCast] at hia
    have hld := fun h' => cellsAt_fp1 (h := h') (cells := cells) (k := k) (by omega)
    have hrow := hc k hlt
    have he : L.getD k [] = [] := List.eq_nil_of_length_eq_zero (hw _ (mem_getD hlt))
    rw [he] at hrow
    have hcl0 := s_Clone0 hrow
    have hone := hrow.one
    have hcell : (cells.getD k .nils).cells = [cells.getD k .nils] := by rcases hrow.2 with ⟨h1, _⟩ | h1 <;> rw [h1] <;> rfl
    have st := fun R => sr_one (R := R) (v := cells.getD k .nils) (k := k) hbk hcell hone (by simp; omega)
    have e : (cells.take k ++ List.replicate (L.length - k) AV.nils).set k (cells.getD k .nils) = cells.take (k + 1) ++ List.replicate (L.length - (k + 1)) .nils := by
      rw [take_getD (d := .nils) (by omega), show L.length - k = (L.length - (k + 1)) + 1 by omega, List.replicate_succ, List.set_append_right _ _ (by simp; omega)]
      rw [show k - (cells.take k).length = 0 by simp; omega]
      simp
    rw [e] at st
    generalize cells.getD k .nils = cv at *
    simp [k3, k9, k10, k11, hlt, hia, hld]
    refine hcl0.call ?_
    simp [k11, u1, hlt, st]
    exact kp.set hb _
  · have : k = L.length := by omega
    subst this
    rw [← hcl, List.take_length, Nat.sub_self, List.replicate_zero, List.append_nil] at hbk
    simp [k3, k10, k11]
    exact ret_blk hbk hb kp (by omega) rfl

/-- The identity. -/
def unitL (n : Nat) : List (List Int) := matF n n fun i j => if i = j then 1 else 0
theorem unitL_len (n : Nat) : (unitL n).length = n := matF_len ..
theorem unitL_row {n i : Nat} (hi : i < n) : (unitL n).getD i [] = (List.replicate n 0).set i 1 := by
  unfold unitL
  rw [matF_row hi]
  refine List.ext_getElem (by simp) fun j h1 h2 => ?_
  simp only [List.getElem_map, List.getElem_range, List.getElem_set, List.getElem_replicate]

theorem w_unit {n : Nat} (hn : n ≤ 4294967296) (h : Hp) : Spec prog n_matrix_unit [I n] h (LiveV h (unitL n)) := by
  refine spec_of cf_matrix_unit rfl ?_
  have hn' : (n : Int) ≤ 4294967296 := by omega
  simp [hn', one_nils]
  intro b hb
  rw [zeros_nils]
  have hul := unitL_len n
  refine awp_for n (fun k fr' h' => (∃ bs, PM h h' b bs k (unitL n)) ∧ fr' 9 = I k) ⟨⟨_, by have := PM.start hb (unitL n); rwa [hul] at this⟩, by simp⟩ ?_
  intro k fr' h' hkn hk ⟨⟨bs, p⟩, k9⟩
  have k0 := hk 0 (by decide)
  have k3 := hk 3 (by decide)
  have k8 := hk 8 (by decide)
  simp at k0 k3 k8
  clear hk
  by_cases hlt : k < n
  · have u1 : IntKind.i64.wrap ((k : Int) + 1) = k + 1 := w64 _ (by omega)
    have hur := unitL_row hlt
    have hurl : ((unitL n).getD k []).length = n := by rw [hur]; simp
    simp [k0, k3, k8, k9, hlt, hn']
    intro b2 hb2
    -- the row of zeros is put in place first, then its one
    have hk2 : Kp h' (hset h' b2 (ints (List.replicate n 0))) := (Kp.refl _).new hb2 _
    have hbo : b2 ≠ b := fun he => by rw [he, p.out] at hb2; cases hb2
    have st1 := fun R => sr_one (R := R) (v := .sl b2 0 n 1) (k := k) (hk2 _ _ p.out) rfl rfl (by rw [List.length_append, rowsC_len, List.length_take, List.length_replicate, hul]; omega)
    have hk3 : Kp h' (hset h' b2 (ints ((List.replicate n 0).set k 1))) := (Kp.refl _).new hb2 _
    obtain ⟨s1, s2⟩ := p.put (by omega) hk3 hb2 (by rw [hset_same, hur])
    rw [hurl] at s1
    have st1' := fun R => sr_one (R := R) (v := .sl b2 0 n 1) (k := k) (hk3 _ _ p.out) rfl rfl (by rw [List.length_append, rowsC_len, List.length_take, List.length_replicate, hul]; omega)
    have e : (rowsC bs ((unitL n).take k) ++ List.replicate ((unitL n).length - k) AV.nils).set k (.sl b2 0 n 1) = rowsC (fun i => if i = k then b2 else bs i) ((unitL n).take (k + 1)) ++ List.replicate ((unitL n).length - (k + 1)) .nils := by
      have h1 := s1 fun _ h' => h' b = some ((rowsC bs ((unitL n).take k) ++ List.replicate ((unitL n).length - k) AV.nils).set k (.sl b2 0 n 1))
      rw [st1', hset_same, hset_same] at h1
      have h2 := h1.mp rfl
      injection h2 with h2
      exact h2.symm
    rw [e] at st1
    have hyl : (rowsC (fun i => if i = k then b2 else bs i) ((unitL n).take (k + 1)) ++ List.replicate ((unitL n).length - (k + 1)) AV.nils).length = n := by
      rw [List.length_append, rowsC_len, List.length_take, List.length_replicate, hul]; omega
    have hyg : (rowsC (fun i => if i = k then b2 else bs i) ((unitL n).take (k + 1)) ++ List.replicate ((unitL n).length - (k + 1)) AV.nils).getD k .nils = .sl b2 0 n 1 := by
      rw [← e, getD_set, if_pos ⟨rfl, by rw [List.length_append, rowsC_len, List.length_take, List.length_replicate, hul]; omega⟩]
    generalize rowsC (fun i => if i = k then b2 else bs i) ((unitL n).take (k + 1)) ++ List.replicate ((unitL n).length - (k + 1)) AV.nils = ys at *
    have ld : cellsAt (hset (hset h' b2 (ints (List.replicate n 0))) b ys) (.ref b k) 1 = some [.sl b2 0 n 1] := by
      rw [ld_one_at (hset_same ..) (by omega), hyg]
    have st2 := fun R => sr_ints (R := R) (v := 1) (k := k) (l := List.replicate n 0) (h := hset (hset h' b2 (ints (List.replicate n 0))) b ys) (b := b2) (by rw [hset_ne _ _ hbo, hset_same]) (by simpa using hlt)
    simp [k3, st1, hlt, ld, st2, k9, u1]
    rw [hset_comm hbo, hset_hset, hset_comm (Ne.symm hbo)]
    exact ⟨_, s2⟩
  · have : k = n := by omega
    subst this
    simp [k3, k8, k9]
    have p2 : PM h h' b bs (unitL k).length (unitL k) := by rw [hul]; exact p
    exact ⟨b, bs, by rw [hul], p2.done⟩
end Go.AM.Ytmihmgnjnedfcab
end

section
/- Codes of the program, as the conversion gives them. -/
set_option maxRecDepth 100000
namespace Go.AM.Ytmihmgnjnedfcab
open Go Go.AM
-- matrix_Canonical
abbrev c_matrix_Canonical_5 : SC := .ret
abbrev c_matrix_Canonical_4 : SC := .seq (.reg [o 31 (.fadr (.t 3) 0), o 32 (.ld (.t 31) 1 false), o 33 (.mv (.t 9)), o 34 (.build [I 0, .nils] [(0, (1, .t 32)), (1, (1, .t 33))]), o 35 (.mv (.t 10)), os (.st (.t 4) (.t 34) 2), o 5 (.mv (.t 35)), o 6 (.mv (ki 0))]) c_matrix_Canonical_5
abbrev c_matrix_Canonical_3 : SC := .seq (.reg [o 23 (.mv (.t 7)), o 24 (.fadr (.t 3) 1), o 25 (.ld (.t 24) 1 false), o 26 (.fadr (.t 3) 0), o 27 (.ld (.t 26) 1 false), o 28 (.call (.f n_matrix_canon) [.t 23, .t 25, .t 27]), o 22 (.mv (.t 28)), o 29 (.ext (.t 22) 0), o 30 (.ext (.t 22) 1), o 9 (.mv (.t 29)), o 10 (.mv (.t 30))]) c_matrix_Canonical_4
abbrev c_matrix_Canonical_2 : SC := .seq (.seq (.reg [o 18 (.mv (.t 8)), o 19 (.bin .neq (.t 18) (ki 0))]) (.cond (.t 19) (.seq (.reg [o 20 (.build [I 0, .nils] []), o 21 (.mv (.t 8)), os (.st (.t 4) (.t 20) 2), o 5 (.mv (.k .nils)), o 6 (.mv (.t 21))]) .ret) .skip)) c_matrix_Canonical_3
abbrev c_matrix_Canonical_1 : SC := .seq (.reg [o 12 (.ld (.t 2) 3 true), o 13 (.ld (.t 3) 2 true), o 14 (.mkl 1 2 [I 0, .nils] [(0, (2, .t 13))]), o 15 (.call (.f n_matrix_open) [.t 12, .t 14]), o 11 (.mv (.t 15)), o 16 (.ext (.t 11) 0), o 17 (.ext (.t 11) 1), o 7 (.mv (.t 16)), o 8 (.mv (.t 17))]) c_matrix_Canonical_2
abbrev c_matrix_Canonical_0 : SC := .seq (.reg [o 2 (.box (.t 0)), o 3 (.box (.t 1)), o 4 (.new [I 0, .nils]), o 5 (.mv (.k .nils)), o 6 (.mv (ki 0))]) c_matrix_Canonical_1
theorem cf_matrix_Canonical : cfun Go.Proofs.Try.prog md n_matrix_Canonical = some ⟨2, 36, c_matrix_Canonical_0.erase, [.c 4 2 true, .t 5, .t 6]⟩ := by kernel_rfl
-- matrix_Rank
abbrev c_matrix_Rank_3 : SC := .ret
abbrev c_matrix_Rank_2 : SC := .seq (.reg [o 16 (.mv (.t 7)), o 17 (.len (.t 16)), o 18 (.mv (.t 8)), o 4 (.mv (.t 17)), o 5 (.mv (.t 18))]) c_matrix_Rank_3
abbrev c_matrix_Rank_1 : SC := .seq (.reg [o 10 (.ld (.t 2) 3 true), o 11 (.ld (.t 3) 2 true), o 12 (.call (.f n_matrix_Canonical) [.t 10, .t 11]), o 9 (.mv (.t 12)), o 13 (.ext (.t 9) 0), o 14 (.ext (.t 9) 1), o 15 (.ext (.t 9) 2), o 6 (.new [I 0, .nils]), os (.st (.t 6) (.t 13) 2), o 7 (.mv (.t 14)), o 8 (.mv (.t 15))]) c_matrix_Rank_2
abbrev c_matrix_Rank_0 : SC := .seq (.reg [o 2 (.box (.t 0)), o 3 (.box (.t 1)), o 4 (.mv (ki 0)), o 5 (.mv (ki 0))]) c_matrix_Rank_1
theorem cf_matrix_Rank : cfun Go.Proofs.Try.prog md n_matrix_Rank = some ⟨2, 19, c_matrix_Rank_0.erase, [.t 4, .t 5]⟩ := by kernel_rfl
-- matrix_Check
abbrev c_matrix_Check_3 : SC := .ret
abbrev c_matrix_Check_2 : SC := .seq (.reg [o 14 (.mv (.t 6)), o 4 (.mv (.t 14))]) c_matrix_Check_3
abbrev c_matrix_Check_1 : SC := .seq (.reg [o 8 (.ld (.t 2) 3 true), o 9 (.ld (.t 3) 2 true), o 10 (.mkl 1 2 [I 0, .nils] [(0, (2, .t 9))]), o 11 (.call (.f n_matrix_open) [.t 8, .t 10]), o 7 (.mv (.t 11)), o 12 (.ext (.t 7) 0), o 13 (.ext (.t 7) 1), o 5 (.mv (.t 12)), o 6 (.mv (.t 13))]) c_matrix_Check_2
abbrev c_matrix_Check_0 : SC := .seq (.reg [o 2 (.box (.t 0)), o 3 (.box (.t 1)), o 4 (.mv (ki 0))]) c_matrix_Check_1
theorem cf_matrix_Check : cfun Go.Proofs.Try.prog md n_matrix_Check = some ⟨2, 15, c_matrix_Check_0.erase, [.t 4]⟩ := by kernel_rfl
-- ref09_scale
abbrev c_ref09_scaleL0_2 : SC := (.reg [o 16 (.mv (.t 8)), o 17 (.bin .add (.t 16) (ki 1)), o 8 (.mv (.t 17))])
abbrev c_ref09_scaleL0_1 : SC := .seq (.block 1 (.reg [o 18 (.mv (.t 7)), o 19 (.mv (.t 8)), o 21 (.mv (.t 1)), o 22 (.mv (.t 2)), o 23 (.mv (.t 8)), o 24 (.iadr (.t 22) (.t 23) 1), o 20 (.ld (.t 3) 3 true), o 25 (.ld (.t 24) 1 false), om 1 26 (.call (.f n_ref04_Mul) [.t 20, .t 21, .t 25]), o 27 (.iadr (.t 18) (.t 19) 1), os (.st (.t 27) (.t 26) 1)])) c_ref09_scaleL0_2
abbrev c_ref09_scaleL0_0 : SC := .seq (.seq (.reg [o 12 (.mv (.t 8)), o 13 (.mv (.t 2)), o 14 (.len (.t 13)), o 15 (.bin .lss (.t 12) (.t 14))]) (.cond (.t 15) .skip (.exit 0))) c_ref09_scaleL0_1
abbrev c_ref09_scale_4 : SC := .ret
abbrev c_ref09_scale_3 : SC := .seq (.reg [o 28 (.mv (.t 7)), o 6 (.mv (.t 28))]) c_ref09_scale_4
abbrev c_ref09_scale_2 : SC := .seq (.seq (.reg [o 8 (.mv (ki 0))]) (.block 0 (.loop c_ref09_scaleL0_0))) c_ref09_scale_3
abbrev c_ref09_scale_1 : SC := .seq (.reg [o 9 (.mv (.t 2)), o 10 (.len (.t 9)), o 11 (.mks (.t 10) 1 [I 0]), o 7 (.mv (.t 11))]) c_ref09_scale_2
abbrev c_ref09_scale_0 : SC := .seq (.reg [o 3 (.box (.t 0)), o 6 (.mv (.k .nils))]) c_ref09_scale_1
theorem cf_ref09_scale : cfun Go.Proofs.Try.prog md n_ref09_scale = some ⟨3, 29, c_ref09_scale_0.erase, [.t 6]⟩ := by kernel_rfl
-- ref09_Copy
abbrev c_ref09_CopyL0_2 : SC := (.reg [o 9 (.mv (.t 4)), o 10 (.bin .add (.t 9) (ki 1)), o 4 (.mv (.t 10))])
abbrev c_ref09_CopyL0_1 : SC := .seq (.block 1 (.reg [o 11 (.mv (.t 3)), o 12 (.mkl 0 1 [] []), o 13 (.mv (.t 0)), o 14 (.mv (.t 4)), o 15 (.iadr (.t 13) (.t 14) 1), o 16 (.ld (.t 15) 1 false), o 17 (.app (.t 12) (.t 16) 1), o 18 (.mkl 1 1 [.nils] [(0, (1, .t 17))]), o 19 (.app (.t 11) (.t 18) 1), o 3 (.mv (.t 19))])) c_ref09_CopyL0_2
abbrev c_ref09_CopyL0_0 : SC := .seq (.seq (.reg [o 5 (.mv (.t 4)), o 6 (.mv (.t 0)), o 7 (.len (.t 6)), o 8 (.bin .lss (.t 5) (.t 7))]) (.cond (.t 8) .skip (.exit 0))) c_ref09_CopyL0_1
abbrev c_ref09_Copy_4 : SC := .ret
abbrev c_ref09_Copy_3 : SC := .seq (.reg [o 20 (.mv (.t 3)), o 2 (.mv (.t 20))]) c_ref09_Copy_4
abbrev c_ref09_Copy_2 : SC := .seq (.seq (.reg [o 4 (.mv (ki 0))]) (.block 0 (.loop c_ref09_CopyL0_0))) c_ref09_Copy_3
abbrev c_ref09_Copy_1 : SC := .seq (.reg [o 3 (.mv (.k .nils))]) c_ref09_Copy_2
abbrev c_ref09_Copy_0 : SC := .seq (.reg [o 2 (.mv (.k .nils))]) c_ref09_Copy_1
theorem cf_ref09_Copy : cfun Go.Proofs.Try.prog md n_ref09_Copy = some ⟨1, 21, c_ref09_Copy_0.erase, [.t 2]⟩ := by kernel_rfl
-- ref09_Eliminate
abbrev c_ref09_EliminateL1_1 : SC := (.block 3 (.reg [o 42 (.mv (.t 12)), o 43 (.bin .add (.t 42) (ki 1)), o 12 (.mv (.t 43))]))
abbrev c_ref09_EliminateL1_0 : SC := .seq (.seq (.reg [o 28 (.mv (.t 12)), o 29 (.mv (.t 8)), o 30 (.len (.t 29)), o 31 (.bin .lss (.t 28) (.t 30)), o 32 (.mv (.t 31)), og 32 true 0 33 (.mv (.t 8)), og 32 true 0 34 (.mv (.t 12)), og 32 true 0 35 (.iadr (.t 33) (.t 34) 1), og 32 true 0 36 (.ld (.t 35) 1 false), og 32 true 0 37 (.mv (.t 11)), og 32 true 0 38 (.iadr (.t 36) (.t 37) 1), og 32 true 0 39 (.ld (.t 38) 1 false), og 32 true 0 40 (.bin .eql (.t 39) (ki 0)), o 41 (.pick (.t 32) (.t 40) (kb false))]) (.cond (.t 41) .skip (.exit 2))) c_ref09_EliminateL1_1
abbrev c_ref09_EliminateB5_1 : SC := (.cond (.t 106) (.reg [o 107 (.mv (.t 8)), o 108 (.mv (.t 13)), o 110 (.mv (.t 8)), o 111 (.mv (.t 13)), o 112 (.iadr (.t 110) (.t 111) 1), o 115 (.mv (.t 8)), o 116 (.mv (.t 13)), o 117 (.iadr (.t 115) (.t 116) 1), o 119 (.mv (.t 11)), o 123 (.mv (.t 8)), o 124 (.mv (.t 10)), o 125 (.iadr (.t 123) (.t 124) 1), o 109 (.ld (.t 3) 3 true), o 113 (.ld (.t 112) 1 false), o 114 (.ld (.t 3) 3 true), o 118 (.ld (.t 117) 1 false), o 120 (.iadr (.t 118) (.t 119) 1), o 121 (.ld (.t 120) 1 false), o 126 (.ld (.t 125) 1 false), om 1 122 (.call (.f n_ref04_Neg) [.t 114, .t 121]), om 1 127 (.call (.f n_ref09_AddTo) [.t 109, .t 113, .t 122, .t 126]), o 128 (.iadr (.t 107) (.t 108) 1), os (.st (.t 128) (.t 127) 1)]) .skip)
abbrev c_ref09_EliminateB5_0 : SC := .seq (.reg [o 94 (.mv (.t 13)), o 95 (.mv (.t 10)), o 96 (.bin .neq (.t 94) (.t 95)), o 97 (.mv (.t 96)), og 97 true 0 98 (.mv (.t 8)), og 97 true 0 99 (.mv (.t 13)), og 97 true 0 100 (.iadr (.t 98) (.t 99) 1), og 97 true 0 101 (.ld (.t 100) 1 false), og 97 true 0 102 (.mv (.t 11)), og 97 true 0 103 (.iadr (.t 101) (.t 102) 1), og 97 true 0 104 (.ld (.t 103) 1 false), og 97 true 0 105 (.bin .neq (.t 104) (ki 0)), o 106 (.pick (.t 97) (.t 105) (kb false))]) c_ref09_EliminateB5_1
abbrev c_ref09_EliminateL2_2 : SC := (.reg [o 92 (.mv (.t 13)), o 93 (.bin .add (.t 92) (ki 1)), o 13 (.mv (.t 93))])
abbrev c_ref09_EliminateL2_1 : SC := .seq (.block 5 c_ref09_EliminateB5_0) c_ref09_EliminateL2_2
abbrev c_ref09_EliminateL2_0 : SC := .seq (.seq (.reg [o 88 (.mv (.t 13)), o 89 (.mv (.t 8)), o 90 (.len (.t 89)), o 91 (.bin .lss (.t 88) (.t 90))]) (.cond (.t 91) .skip (.exit 4))) c_ref09_EliminateL2_1
abbrev c_ref09_EliminateB1_7 : SC := (.reg [o 133 (.mv (.t 10)), o 134 (.bin .add (.t 133) (ki 1)), o 10 (.mv (.t 134))])
abbrev c_ref09_EliminateB1_6 : SC := .seq (.reg [o 129 (.mv (.t 9)), o 130 (.mv (.t 11)), o 131 (.mkl 1 1 [I 0] [(0, (1, .t 130))]), o 132 (.app (.t 129) (.t 131) 1), o 9 (.mv (.t 132))]) c_ref09_EliminateB1_7
abbrev c_ref09_EliminateB1_5 : SC := .seq (.seq (.reg [o 13 (.mv (ki 0))]) (.block 4 (.loop c_ref09_EliminateL2_0))) c_ref09_EliminateB1_6
abbrev c_ref09_EliminateB1_4 : SC := .seq (.seq (.reg [o 62 (.mv (.t 8)), o 63 (.mv (.t 10)), o 64 (.iadr (.t 62) (.t 63) 1), o 65 (.ld (.t 64) 1 false), o 66 (.mv (.t 11)), o 67 (.iadr (.t 65) (.t 66) 1), o 68 (.ld (.t 67) 1 false), o 69 (.bin .neq (.t 68) (ki 1))]) (.cond (.t 69) (.reg [o 70 (.mv (.t 8)), o 71 (.mv (.t 10)), o 74 (.mv (.t 8)), o 75 (.mv (.t 10)), o 76 (.iadr (.t 74) (.t 75) 1), o 78 (.mv (.t 11)), o 82 (.mv (.t 8)), o 83 (.mv (.t 10)), o 84 (.iadr (.t 82) (.t 83) 1), o 72 (.ld (.t 3) 3 true), o 73 (.ld (.t 3) 3 true), o 77 (.ld (.t 76) 1 false), o 79 (.iadr (.t 77) (.t 78) 1), o 80 (.ld (.t 79) 1 false), o 85 (.ld (.t 84) 1 false), om 1 81 (.call (.f n_ref04_Inv) [.t 73, .t 80]), om 1 86 (.call (.f n_ref09_scale) [.t 72, .t 81, .t 85]), o 87 (.iadr (.t 70) (.t 71) 1), os (.st (.t 87) (.t 86) 1)]) .skip)) c_ref09_EliminateB1_5
abbrev c_ref09_EliminateB1_3 : SC := .seq (.reg [o 48 (.mv (.t 8)), o 49 (.mv (.t 10)), o 50 (.mv (.t 8)), o 51 (.mv (.t 12)), o 52 (.mv (.t 8)), o 53 (.mv (.t 12)), o 54 (.iadr (.t 52) (.t 53) 1), o 56 (.mv (.t 8)), o 57 (.mv (.t 10)), o 58 (.iadr (.t 56) (.t 57) 1), o 55 (.ld (.t 54) 1 false), o 59 (.ld (.t 58) 1 false), o 60 (.iadr (.t 48) (.t 49) 1), os (.st (.t 60) (.t 55) 1), o 61 (.iadr (.t 50) (.t 51) 1), os (.st (.t 61) (.t 59) 1)]) c_ref09_EliminateB1_4
abbrev c_ref09_EliminateB1_2 : SC := .seq (.seq (.reg [o 44 (.mv (.t 12)), o 45 (.mv (.t 8)), o 46 (.len (.t 45)), o 47 (.bin .eql (.t 44) (.t 46))]) (.cond (.t 47) (.exit 1) .skip)) c_ref09_EliminateB1_3
abbrev c_ref09_EliminateB1_1 : SC := .seq (.block 2 (.loop c_ref09_EliminateL1_0)) c_ref09_EliminateB1_2
abbrev c_ref09_EliminateB1_0 : SC := .seq (.reg [o 27 (.mv (.t 10)), o 12 (.mv (.t 27))]) c_ref09_EliminateB1_1
abbrev c_ref09_EliminateL0_2 : SC := (.reg [o 25 (.mv (.t 11)), o 26 (.bin .add (.t 25) (ki 1)), o 11 (.mv (.t 26))])
abbrev c_ref09_EliminateL0_1 : SC := .seq (.block 1 c_ref09_EliminateB1_0) c_ref09_EliminateL0_2
abbrev c_ref09_EliminateL0_0 : SC := .seq (.seq (.reg [o 16 (.mv (.t 11)), o 17 (.mv (.t 2)), o 18 (.bin .lss (.t 16) (.t 17)), o 19 (.mv (.t 18)), og 19 true 0 20 (.mv (.t 10)), og 19 true 0 21 (.mv (.t 8)), og 19 true 0 22 (.len (.t 21)), og 19 true 0 23 (.bin .lss (.t 20) (.t 22)), o 24 (.pick (.t 19) (.t 23) (kb false))]) (.cond (.t 24) .skip (.exit 0))) c_ref09_EliminateL0_1
abbrev c_ref09_Eliminate_6 : SC := .ret
abbrev c_ref09_Eliminate_5 : SC := .seq (.reg [o 135 (.mv (.t 8)), o 136 (.mv (.t 9)), o 6 (.mv (.t 135)), o 7 (.mv (.t 136))]) c_ref09_Eliminate_6
abbrev c_ref09_Eliminate_4 : SC := .seq (.seq (.reg [o 11 (.mv (ki 0))]) (.block 0 (.loop c_ref09_EliminateL0_0))) c_ref09_Eliminate_5
abbrev c_ref09_Eliminate_3 : SC := .seq (.reg [o 10 (.mv (ki 0))]) c_ref09_Eliminate_4
abbrev c_ref09_Eliminate_2 : SC := .seq (.reg [o 9 (.mv (.k .nils))]) c_ref09_Eliminate_3
abbrev c_ref09_Eliminate_1 : SC := .seq (.reg [o 14 (.mv (.t 1)), o 15 (.call (.f n_ref09_Copy) [.t 14]), o 8 (.mv (.t 15))]) c_ref09_Eliminate_2
abbrev c_ref09_Eliminate_0 : SC := .seq (.reg [o 3 (.box (.t 0)), o 6 (.mv (.k .nils)), o 7 (.mv (.k .nils))]) c_ref09_Eliminate_1
theorem cf_ref09_Eliminate : cfun Go.Proofs.Try.prog md n_ref09_Eliminate = some ⟨3, 137, c_ref09_Eliminate_0.erase, [.t 6, .t 7]⟩ := by kernel_rfl
-- ref09_Canon
abbrev c_ref09_Canon_3 : SC := .ret
abbrev c_ref09_Canon_2 : SC := .seq (.reg [o 17 (.mv (.t 8)), o 18 (.mv (.t 9)), o 19 (.len (.t 18)), o 20 (.slc (.t 17) none (some (.t 19)) none 1), o 21 (.mv (.t 9)), o 6 (.mv (.t 20)), o 7 (.mv (.t 21))]) c_ref09_Canon_3
abbrev c_ref09_Canon_1 : SC := .seq (.reg [o 11 (.ld (.t 3) 3 true), o 12 (.mv (.t 1)), o 13 (.mv (.t 2)), o 14 (.call (.f n_ref09_Eliminate) [.t 11, .t 12, .t 13]), o 10 (.mv (.t 14)), o 15 (.ext (.t 10) 0), o 16 (.ext (.t 10) 1), o 8 (.mv (.t 15)), o 9 (.mv (.t 16))]) c_ref09_Canon_2
abbrev c_ref09_Canon_0 : SC := .seq (.reg [o 3 (.box (.t 0)), o 6 (.mv (.k .nils)), o 7 (.mv (.k .nils))]) c_ref09_Canon_1
theorem cf_ref09_Canon : cfun Go.Proofs.Try.prog md n_ref09_Canon = some ⟨3, 22, c_ref09_Canon_0.erase, [.t 6, .t 7]⟩ := by kernel_rfl
-- ref09_Canonical
abbrev c_ref09_Canonical_5 : SC := .ret
abbrev c_ref09_Canonical_4 : SC := .seq (.reg [o 26 (.fadr (.t 3) 0), o 27 (.ld (.t 26) 1 false), o 28 (.mv (.t 8)), o 29 (.build [I 0, .nils] [(0, (1, .t 27)), (1, (1, .t 28))]), o 30 (.mv (.t 9)), os (.st (.t 4) (.t 29) 2), o 5 (.mv (.t 30)), o 6 (.mv (ki 0))]) c_ref09_Canonical_5
abbrev c_ref09_Canonical_3 : SC := .seq (.reg [o 18 (.ld (.t 2) 3 true), o 19 (.fadr (.t 3) 1), o 20 (.ld (.t 19) 1 false), o 21 (.fadr (.t 3) 0), o 22 (.ld (.t 21) 1 false), o 23 (.call (.f n_ref09_Canon) [.t 18, .t 20, .t 22]), o 17 (.mv (.t 23)), o 24 (.ext (.t 17) 0), o 25 (.ext (.t 17) 1), o 8 (.mv (.t 24)), o 9 (.mv (.t 25))]) c_ref09_Canonical_4
abbrev c_ref09_Canonical_2 : SC := .seq (.seq (.reg [o 13 (.mv (.t 7)), o 14 (.bin .neq (.t 13) (ki 0))]) (.cond (.t 14) (.seq (.reg [o 15 (.build [I 0, .nils] []), o 16 (.mv (.t 7)), os (.st (.t 4) (.t 15) 2), o 5 (.mv (.k .nils)), o 6 (.mv (.t 16))]) .ret) .skip)) c_ref09_Canonical_3
abbrev c_ref09_Canonical_1 : SC := .seq (.reg [o 10 (.ld (.t 2) 3 true), o 11 (.ld (.t 3) 2 true), o 12 (.call (.f n_ref09_Check) [.t 10, .t 11]), o 7 (.mv (.t 12))]) c_ref09_Canonical_2
abbrev c_ref09_Canonical_0 : SC := .seq (.reg [o 2 (.box (.t 0)), o 3 (.box (.t 1)), o 4 (.new [I 0, .nils]), o 5 (.mv (.k .nils)), o 6 (.mv (ki 0))]) c_ref09_Canonical_1
theorem cf_ref09_Canonical : cfun Go.Proofs.Try.prog md n_ref09_Canonical = some ⟨2, 31, c_ref09_Canonical_0.erase, [.c 4 2 true, .t 5, .t 6]⟩ := by kernel_rfl
-- ref09_Check
abbrev c_ref09_CheckL0_2 : SC := (.reg [o 32 (.mv (.t 6)), o 33 (.bin .add (.t 32) (ki 1)), o 6 (.mv (.t 33))])
abbrev c_ref09_CheckL0_1 : SC := .seq (.block 1 (.seq (.reg [o 34 (.fadr (.t 3) 1), o 36 (.mv (.t 6)), o 40 (.fadr (.t 3) 0), o 35 (.ld (.t 34) 1 false), o 37 (.iadr (.t 35) (.t 36) 1), o 38 (.ld (.t 37) 1 false), o 39 (.len (.t 38)), o 41 (.ld (.t 40) 1 false), o 42 (.bin .neq (.t 39) (.t 41))]) (.cond (.t 42) (.seq (.reg [o 4 (.mv (ki 3))]) .ret) .skip))) c_ref09_CheckL0_2
abbrev c_ref09_CheckL0_0 : SC := .seq (.seq (.reg [o 27 (.mv (.t 6)), o 28 (.fadr (.t 3) 1), o 29 (.ld (.t 28) 1 false), o 30 (.len (.t 29)), o 31 (.bin .lss (.t 27) (.t 30))]) (.cond (.t 31) .skip (.exit 0))) c_ref09_CheckL0_1
abbrev c_ref09_CheckL1_2 : SC := (.reg [o 48 (.mv (.t 7)), o 49 (.bin .add (.t 48) (ki 1)), o 7 (.mv (.t 49))])
abbrev c_ref09_CheckL1_1 : SC := .seq (.block 3 (.seq (.reg [o 51 (.fadr (.t 3) 1), o 53 (.mv (.t 7)), o 50 (.ld (.t 2) 3 true), o 52 (.ld (.t 51) 1 false), o 54 (.iadr (.t 52) (.t 53) 1), o 55 (.ld (.t 54) 1 false), om 1 56 (.call (.f n_ref09_Entries) [.t 50, .t 55]), o 5 (.mv (.t 56))]) (.seq (.reg [o 57 (.mv (.t 5)), o 58 (.bin .neq (.t 57) (ki 0))]) (.cond (.t 58) (.seq (.reg [o 59 (.mv (.t 5)), o 4 (.mv (.t 59))]) .ret) .skip)))) c_ref09_CheckL1_2
abbrev c_ref09_CheckL1_0 : SC := .seq (.seq (.reg [o 43 (.mv (.t 7)), o 44 (.fadr (.t 3) 1), o 45 (.ld (.t 44) 1 false), o 46 (.len (.t 45)), o 47 (.bin .lss (.t 43) (.t 46))]) (.cond (.t 47) .skip (.exit 2))) c_ref09_CheckL1_1
abbrev c_ref09_Check_7 : SC := .ret
abbrev c_ref09_Check_6 : SC := .seq (.reg [o 4 (.mv (ki 0))]) c_ref09_Check_7
abbrev c_ref09_Check_5 : SC := .seq (.seq (.reg [o 7 (.mv (ki 0))]) (.block 2 (.loop c_ref09_CheckL1_0))) c_ref09_Check_6
abbrev c_ref09_Check_4 : SC := .seq (.seq (.reg [o 6 (.mv (ki 0))]) (.block 0 (.loop c_ref09_CheckL0_0))) c_ref09_Check_5
abbrev c_ref09_Check_3 : SC := .seq (.seq (.reg [o 13 (.fadr (.t 3) 0), o 14 (.ld (.t 13) 1 false), o 15 (.bin .lss (.t 14) (ki 0)), o 16 (.mv (.t 15)), og 16 false 0 17 (.fadr (.t 3) 0), og 16 false 0 18 (.ld (.t 17) 1 false), og 16 false 0 19 (.bin .gtr (.t 18) (ki 256)), o 20 (.pick (.t 16) (kb true) (.t 19)), o 21 (.mv (.t 20)), og 21 false 0 22 (.fadr (.t 3) 1), og 21 false 0 23 (.ld (.t 22) 1 false), og 21 false 0 24 (.len (.t 23)), og 21 false 0 25 (.bin .gtr (.t 24) (ki 256)), o 26 (.pick (.t 21) (kb true) (.t 25))]) (.cond (.t 26) (.seq (.reg [o 4 (.mv (ki 3))]) .ret) .skip)) c_ref09_Check_4
abbrev c_ref09_Check_2 : SC := .seq (.seq (.reg [o 10 (.mv (.t 5)), o 11 (.bin .neq (.t 10) (ki 0))]) (.cond (.t 11) (.seq (.reg [o 12 (.mv (.t 5)), o 4 (.mv (.t 12))]) .ret) .skip)) c_ref09_Check_3
abbrev c_ref09_Check_1 : SC := .seq (.reg [o 8 (.ld (.t 2) 3 true), o 9 (.call (.f n_ref04_Check) [.t 8]), o 5 (.mv (.t 9))]) c_ref09_Check_2
abbrev c_ref09_Check_0 : SC := .seq (.reg [o 2 (.box (.t 0)), o 3 (.box (.t 1)), o 4 (.mv (ki 0))]) c_ref09_Check_1
theorem cf_ref09_Check : cfun Go.Proofs.Try.prog md n_ref09_Check = some ⟨2, 60, c_ref09_Check_0.erase, [.t 4]⟩ := by kernel_rfl
-- ref09_Same
abbrev c_ref09_Same_2 : SC := .ret
abbrev c_ref09_Same_1 : SC := .seq (.reg [o 5 (.fadr (.t 2) 0), o 6 (.ld (.t 5) 1 false), o 7 (.fadr (.t 3) 0), o 8 (.ld (.t 7) 1 false), o 9 (.bin .eql (.t 6) (.t 8)), o 10 (.mv (.t 9)), og 10 true 0 11 (.fadr (.t 2) 1), og 10 true 0 12 (.ld (.t 11) 1 false), og 10 true 0 13 (.fadr (.t 3) 1), og 10 true 0 14 (.ld (.t 13) 1 false), og 10 true 0 15 (.call (.f n_ref09_SameRows) [.t 12, .t 14]), o 16 (.pick (.t 10) (.t 15) (kb false)), o 4 (.mv (.t 16))]) c_ref09_Same_2
abbrev c_ref09_Same_0 : SC := .seq (.reg [o 2 (.box (.t 0)), o 3 (.box (.t 1)), o 4 (.mv (kb false))]) c_ref09_Same_1
theorem cf_ref09_Same : cfun Go.Proofs.Try.prog md n_ref09_Same = some ⟨2, 17, c_ref09_Same_0.erase, [.t 4]⟩ := by kernel_rfl
-- ref09_Few
abbrev c_ref09_FewL0_2 : SC := (.reg [o 27 (.mv (.t 6)), o 28 (.bin .add (.t 27) (ki 1)), o 6 (.mv (.t 28))])
abbrev c_ref09_FewL0_1 : SC := .seq (.block 1 (.seq (.seq (.reg [o 29 (.fadr (.t 2) 1), o 30 (.ld (.t 29) 1 false), o 31 (.mv (.t 6)), o 32 (.iadr (.t 30) (.t 31) 1), o 33 (.ld (.t 32) 1 false), o 34 (.len (.t 33)), o 35 (.mv (.t 5)), o 36 (.bin .gtr (.t 34) (.t 35))]) (.cond (.t 36) (.seq (.reg [o 4 (.mv (kb false))]) .ret) .skip)) (.reg [o 37 (.mv (.t 5)), o 38 (.fadr (.t 2) 1), o 39 (.ld (.t 38) 1 false), o 40 (.mv (.t 6)), o 41 (.iadr (.t 39) (.t 40) 1), o 42 (.ld (.t 41) 1 false), o 43 (.len (.t 42)), o 44 (.bin .sub (.t 37) (.t 43)), o 5 (.mv (.t 44))]))) c_ref09_FewL0_2
abbrev c_ref09_FewL0_0 : SC := .seq (.seq (.reg [o 22 (.mv (.t 6)), o 23 (.fadr (.t 2) 1), o 24 (.ld (.t 23) 1 false), o 25 (.len (.t 24)), o 26 (.bin .lss (.t 22) (.t 25))]) (.cond (.t 26) .skip (.exit 0))) c_ref09_FewL0_1
abbrev c_ref09_Few_5 : SC := .ret
abbrev c_ref09_Few_4 : SC := .seq (.reg [o 4 (.mv (kb true))]) c_ref09_Few_5
abbrev c_ref09_Few_3 : SC := .seq (.seq (.reg [o 6 (.mv (ki 0))]) (.block 0 (.loop c_ref09_FewL0_0))) c_ref09_Few_4
abbrev c_ref09_Few_2 : SC := .seq (.reg [o 17 (.mv (.t 1)), o 18 (.fadr (.t 2) 1), o 19 (.ld (.t 18) 1 false), o 20 (.len (.t 19)), o 21 (.bin .sub (.t 17) (.t 20)), o 5 (.mv (.t 21))]) c_ref09_Few_3
abbrev c_ref09_Few_1 : SC := .seq (.seq (.reg [o 7 (.fadr (.t 2) 0), o 8 (.ld (.t 7) 1 false), o 9 (.bin .gtr (.t 8) (ki 260)), o 10 (.mv (.t 9)), og 10 false 0 11 (.fadr (.t 2) 1), og 10 false 0 12 (.ld (.t 11) 1 false), og 10 false 0 13 (.len (.t 12)), og 10 false 0 14 (.mv (.t 1)), og 10 false 0 15 (.bin .gtr (.t 13) (.t 14)), o 16 (.pick (.t 10) (kb true) (.t 15))]) (.cond (.t 16) (.seq (.reg [o 4 (.mv (kb false))]) .ret) .skip)) c_ref09_Few_2
abbrev c_ref09_Few_0 : SC := .seq (.reg [o 2 (.box (.t 0)), o 4 (.mv (kb false))]) c_ref09_Few_1
theorem cf_ref09_Few : cfun Go.Proofs.Try.prog md n_ref09_Few = some ⟨2, 45, c_ref09_Few_0.erase, [.t 4]⟩ := by kernel_rfl
end Go.AM.Ytmihmgnjnedfcab
end

section
/- Contracts of functions: canon, Canonical, Rank, Check. -/
set_option maxRecDepth 100000
set_option linter.unusedSimpArgs false
set_option linter.unusedVariables false
namespace Go.AM.Ytmihmgnjnedfcab
open Go Go.AM
attribute [local simp ↓] awp_seq awp_reg awp_skip awp_cond' awp_block awp_exit awp_ret awp_fz thenW_normal thenW_exit thenW_ret inBlk_normal inBlk_exit inBlk_ret aops_cons' contA_ap aops_nil e_mv e_guard' e_pick' e_ld' e_app e_cpy e_st' e_call callW_f updO_some updO_none e_bin' e_isnil' e_fadr' e_iadr' e_iarr' e_len' e_build' e_mkf' e_nc' e_not' e_neg' e_cvt' e_slc' e_fld' e_ext' e_min' e_eqs' e_new e_box e_mkl e_mks
attribute [local simp] upd_apply ev_t ev_k ev_f binA_add binA_sub binA_mul binA_quo binA_rem binA_eql binA_neq binA_lss binA_leq binA_gtr binA_geq det mem frame0 keeps_nil iadrA_sl fadrA_ref fadrA_fp ldv_agg ldv_one cells_base hset_same hset_hset lenA_fs lenA_sl lenA_nils zeros_ints ints_length one_base one_nilp one_nils one_ref one_sl one_fp one_fs one_fn gl_one resA resOf bound natOf afill splice AV.cells cells_agg bindR_some condR_true condR_false guardR_tup guardR_true guardR_true' guardR_false guardR_false' allocW_some pickA_true pickA_false
attribute [local simp ↓] callW_t CallV_fn
open Go.FM

theorem LV.frzP {h h' : Hp} {o : Nat} {bs : Nat → Nat} {L : List (List Int)} (a : LV h h' o bs L) {r : Nat} (hr : r ≤ L.length) : Sub h' h ∧ Frz h' h (.sl o 0 r 1) (.fs r ((L.take r).map frow)) := by
  refine ⟨a.kp.sub, .sl o 0 r 1 _ _ a.lm.out a.no (by simp; omega) (by simp; omega) fun j hj hk => ?_⟩
  have hj' : j < L.length := by simp at hj; omega
  have hf := Frz.slk (h := h') (h' := h) (len := (L.getD j []).length) (sz := 1) (a.lm.row j hj') (a.nr j hj') (by rw [ints_length, Nat.mul_one])
  simp [List.getD, hj', Option.getD, frow] at hf ⊢
  exact hf

theorem tkL_all {w : Nat} {L : List (List Int)} (h : ∀ row ∈ L, row.length ≤ w) : tkL w L = L := by
  unfold tkL cutL
  refine (List.map_congr_left fun row hr => List.take_of_length_le (h row hr)).trans (List.map_id _)
theorem E2.of {G h : Hp} {o w : Nat} {bs : Nat → Nat} {L : List (List Int)} (a : LV G h o bs L) (hw : ∀ row ∈ L, row.length ≤ w) : E2 G h o w .nils L := ⟨bs, by rw [tkL_all hw]; exact a, .inl rfl⟩
theorem E2.lv {G h : Hp} {o w : Nat} {av : AV} {L : List (List Int)} (a : E2 G h o w av L) (hw : ∀ row ∈ L, row.length ≤ w) : ∃ bs, LV G h o bs L := by
  obtain ⟨bs, h1, _⟩ := a
  exact ⟨bs, by rw [tkL_all hw] at h1; exact h1⟩

/-- No column. -/
theorem s_eliminate0 {D : Ds} {n : Nat} {cells : List AV} : Pure prog n_matrix_eliminate [.fp (gfC D), .fs n cells, I 0, .nils] (.tup [.nils, I 1]) := by
  refine pure_of cf_matrix_eliminate rfl fun h => ?_
  simp
  intro b4 hb4 b5 hb5 b7 hb7
  refine awp_for 0 (fun c fr' h' => h' = hset (hset (hset h b4 [.fp (gfC D)]) b5 [.fs n cells]) b7 [.nils] ∧ fr' 13 = I 0 ∧ fr' 10 = I 1 ∧ fr' 12 = .nils) ⟨rfl, by simp, by simp, by simp⟩ ?_
  intro c fr' h' hcn hk ⟨hh, k13, k10, k12⟩
  have k2 := hk 2 (by decide)
  simp at k2
  clear hk
  simp [k2, k13, k10, k12]
  subst hh
  exact ⟨_, ((((Kp.refl h).new hb4 [.fp (gfC D)]).new hb5 [.fs n cells]).new hb7 [.nils]).sub, .id _, rfl⟩

/-- The canonical rows. -/
noncomputable def canL (D : Ds) (L : List (List Int)) (cols : Nat) : List (List Int) := (elim D L cols).L.take (elim D L cols).pv.length
noncomputable def pivL (D : Ds) (L : List (List Int)) (cols : Nat) : List Int := up (elim D L cols).pv
noncomputable def rkN (D : Ds) (L : List (List Int)) (cols : Nat) : Nat := (elim D L cols).pv.length
theorem pivL_len (D : Ds) (L : List (List Int)) (cols : Nat) : (pivL D L cols).length = rkN D L cols := by simp [pivL, rkN, up]

theorem elim_le {D : Ds} (r : Fd D) {w : Nat} {L : List (List Int)} (hM : Mat D w L) (cols : Nat) : rkN D L cols ≤ L.length := (elim_spec (F := ⟨D, r⟩) hM cols).red.le
theorem elim_le2 {D : Ds} (r : Fd D) {w : Nat} {L : List (List Int)} (hM : Mat D w L) (cols : Nat) : rkN D L cols ≤ cols := (elim_spec (F := ⟨D, r⟩) hM cols).red.rle
theorem canL_len {D : Ds} (r : Fd D) {w : Nat} {L : List (List Int)} (hM : Mat D w L) (cols : Nat) : (canL D L cols).length = rkN D L cols := by
  have := elim_le r hM cols
  have := elim_len D L cols
  unfold canL rkN at *
  rw [List.length_take]; omega

theorem s_canon {D : Ds} (r : Fd D) {v : AV} {L : List (List Int)} (hv : ML v L) {cols : Nat} (hM : Mat D cols L) (hL : L.length ≤ 4294967296) (hc : cols ≤ 4294967296) :
    Pure prog n_matrix_canon [.fp (gfC D), v, I cols] (.tup [.fs (rkN D L cols) ((canL D L cols).map frow), gil (pivL D L cols)]) := by
  refine pure_of cf_matrix_canon rfl fun h => ?_
  have hle := elim_le r hM cols
  have hpv := pivL_len D L cols
  have hpo := (gil_IL (pivL D L cols)).len
  unfold c_matrix_canon_0 c_matrix_canon_1
  generalize hC : c_matrix_canon_2 = C2
  simp
  by_cases h0 : 0 < cols
  · refine call0 (w_clone hv hL (fun row hr => by rw [(hM row hr).1]; omega) h) fun v1 h1 ⟨o, bs, hv1, a⟩ => ?_
    subst hv1
    have hel := w_eliminate r (E2.of (w := cols) a fun row hr => by rw [(hM row hr).1]; exact Nat.le_refl _) hM hc (Nat.le_refl _) hL (Nat.le_refl _)
    subst hC
    unfold c_matrix_canon_2
    generalize hC : c_matrix_canon_3 = C3
    simp
    refine call0 hel fun v2 h2 ⟨hv2, e2⟩ => ?_
    subst hv2
    have hM2 := hM.elim r.toOk cols
    obtain ⟨bs2, a2⟩ := e2.lv fun row hr => by rw [(hM2 row hr).1]; exact Nat.le_refl _
    have hln := elim_len D L cols
    have hfz := a2.frzP (r := rkN D L cols) (by omega)
    rw [List.map_take] at hfz
    have hpv' : (up (elim D L cols).pv) = pivL D L cols := rfl
    have hcl : (canL D L cols) = (elim D L cols).L.take (rkN D L cols) := rfl
    rw [hpv', hcl]
    have hsl : slcA (.sl o 0 L.length 1) 0 (rkN D L cols) (some (rkN D L cols)) 1 = some (.sl o 0 (rkN D L cols) 1) := by
      unfold slcA; simp; omega
    generalize gil (pivL D L cols) = pv at *
    rw [hpv] at hpo
    generalize rkN D L cols = rk at *
    subst hC
    simp [hpo, hsl]
    exact RetP.tup hfz.1 rfl (frz2 hfz.2 (.id _))
  · obtain rfl : cols = 0 := by omega
    obtain ⟨cells, hcl, hml⟩ := s_clone0 hv hL (fun row hr => (hM row hr).1)
    refine hcl.call ?_
    subst hC
    have e1 : rkN D L 0 = 0 := rfl
    have e2 : canL D L 0 = [] := by unfold canL elim; simp
    have e3 : pivL D L 0 = [] := rfl
    rw [e1, e2, e3]
    simp
    refine s_eliminate0.call ?_
    simp [slcA]
    exact RetP.same

theorem chkE_mat {D : Ds} {c : Int} {L : List (List Int)} (h : chkE D c L = 0) : ∃ n : Nat, c = n ∧ n ≤ 256 ∧ L.length ≤ 256 ∧ Mat D n L := by
  obtain ⟨h1, h2, h3, h4, h5⟩ := chkE_zero h
  refine ⟨c.toNat, by omega, by omega, h3, fun row hr => ⟨?_, h5 row hr⟩⟩
  have := h4 row hr; omega
theorem openE_one {p m : Int} {mo : List Int} {c : Int} {L : List (List Int)} (h : openE p m mo [(c, L)] = 0) : FieldP p m mo ∧ ∃ n : Nat, c = n ∧ n ≤ 256 ∧ L.length ≤ 256 ∧ Mat (mkD p m mo) n L := by
  classical
  unfold openE at h
  split at h
  · rename_i hf
    refine ⟨hf, ?_⟩
    simp only [chkAll] at h
    by_cases h1 : chkE (mkD p m mo) c L = 0
    · exact chkE_mat h1
    · rw [if_pos h1] at h; exact (h1 h).elim
  · omega

/-- The answer of Canonical. -/
noncomputable def canR (p m : Int) (mo : List Int) (c : Int) (L : List (List Int)) : AV :=
  if openE p m mo [(c, L)] = 0 then .tup [.agg [I c, .fs (rkN (mkD p m mo) L c.toNat) ((canL (mkD p m mo) L c.toNat).map frow)], gil (pivL (mkD p m mo) L c.toNat), I 0] else .tup [.agg [I 0, .nils], .nils, I (openE p m mo [(c, L)])]

theorem open1 {p m : Int} {mv v : AV} {mo : List Int} (hmv : IL mv mo) (hml : mo.length < 4611686018427387904) {c : Int} {L : List (List Int)} (hv : ML v L) (hs : MSm L) {h : Hp} {b : Nat} (hb : h b = some [I c, v]) :
    PureH prog n_matrix_open [.agg [I p, I m, mv], .sl b 0 1 2] h (openR p m mo [(c, L)]) :=
  s_open (v := .sl b 0 1 2) hmv hml (cells := [I c, v]) (M := [(c, L)]) (by simp) (fun i hi => by
    match i, hi with
    | 0, _ => exact ⟨rfl, hv⟩) (fun i hi => by
    match i, hi with
    | 0, _ => exact hs) (.inr ⟨b, rfl, hb, rfl⟩)

theorem s_Check {p m : Int} {mv v : AV} {mo : List Int} (hmv : IL mv mo) (hml : mo.length < 4611686018427387904) {c : Int} {L : List (List Int)} (hv : ML v L) (hs : MSm L) :
    Pure prog n_matrix_Check [.agg [I p, I m, mv], .agg [I c, v]] (I (openE p m mo [(c, L)])) := by
  refine pure_of cf_matrix_Check rfl fun h => ?_
  have hone := hmv.one
  have hone2 := hv.one
  simp [hone, hone2]
  intro b2 hb2 b3 hb3
  have g2 : (hset (hset h b2 [I p, I m, mv]) b3 [I c, v]) b2 = some [I p, I m, mv] := (Kp.refl _).new hb3 _ b2 _ (hset_same ..)
  have g3 : (hset (hset h b2 [I p, I m, mv]) b3 [I c, v]) b3 = some [I c, v] := hset_same ..
  have hk : Kp h (hset (hset h b2 [I p, I m, mv]) b3 [I c, v]) := ((Kp.refl h).new hb2 _).new hb3 _
  generalize hset (hset h b2 [I p, I m, mv]) b3 [I c, v] = g at *
  obtain ⟨_, _, _, l2⟩ := ld3_at g2
  have l3 := lq_both g3
  simp [l2, l3, hone2]
  intro b hb
  refine (open1 (p := p) (m := m) hmv hml hv hs (hset_same ..)).call ?_
  have hk2 := hk.new hb [I c, v]
  generalize hset g b [I c, v] = g2 at *
  unfold openR
  by_cases he : openE p m mo [(c, L)] = 0
  · rw [if_pos he]
    simp
    rw [he]
    exact ⟨_, hk2.sub, .id _, rfl⟩
  · rw [if_neg he]
    generalize openE p m mo [(c, L)] = e at *
    simp
    exact ⟨_, hk2.sub, .id _, rfl⟩

theorem s_Canonical {p m : Int} {mv v : AV} {mo : List Int} (hmv : IL mv mo) (hml : mo.length < 4611686018427387904) {c : Int} {L : List (List Int)} (hv : ML v L) (hs : MSm L) :
    Pure prog n_matrix_Canonical [.agg [I p, I m, mv], .agg [I c, v]] (canR p m mo c L) := by
  refine pure_of cf_matrix_Canonical rfl fun h => ?_
  have hone := hmv.one
  have hone2 := hv.one
  unfold c_matrix_Canonical_0 c_matrix_Canonical_1
  generalize hC : c_matrix_Canonical_2 = C2
  simp [hone, hone2]
  intro b2 hb2 b3 hb3 b4 hb4
  have g2 : (hset (hset (hset h b2 [I p, I m, mv]) b3 [I c, v]) b4 [I 0, .nils]) b2 = some [I p, I m, mv] := ((Kp.refl _).new hb3 _).new hb4 _ b2 _ (hset_same ..)
  have g3 : (hset (hset (hset h b2 [I p, I m, mv]) b3 [I c, v]) b4 [I 0, .nils]) b3 = some [I c, v] := (Kp.refl _).new hb4 _ b3 _ (hset_same ..)
  have g4 : (hset (hset (hset h b2 [I p, I m, mv]) b3 [I c, v]) b4 [I 0, .nils]) b4 = some [I 0, .nils] := hset_same ..
  have hk : Kp h (hset (hset (hset h b2 [I p, I m, mv]) b3 [I c, v]) b4 [I 0, .nils]) := (((Kp.refl h).new hb2 _).new hb3 _).new hb4 _
  have n4 : h b4 = none := (((Kp.refl h).new hb2 [I p, I m, mv]).new hb3 [I c, v]).no hb4
  generalize hset (hset (hset h b2 [I p, I m, mv]) b3 [I c, v]) b4 [I 0, .nils] = g at *
  obtain ⟨_, _, _, l2⟩ := ld3_at g2
  have l3 := lq_both g3
  simp [l2, l3, hone2]
  intro b hb
  refine (open1 (p := p) (m := m) hmv hml hv hs (hset_same ..)).call ?_
  have hkb : Kp g (hset g b [I c, v]) := (Kp.refl g).new hb _
  have g3 := hkb _ _ g3
  have g4 := hkb _ _ g4
  have hk := hk.trans hkb
  generalize hset g b [I c, v] = G at *
  have l30 := lq_fst g3
  have l31 := lq_snd g3
  unfold openR canR
  by_cases he : openE p m mo [(c, L)] = 0
  · rw [if_pos he, if_pos he]
    obtain ⟨hf, n, rfl, hn, hLn, hM⟩ := openE_one he
    have r := hf.fd
    have hcan := s_canon r hv hM (by omega) (by omega)
    rw [Int.toNat_natCast]
    subst hC
    simp [l30, l31]
    refine hcan.call ?_
    generalize rkN (mkD p m mo) L n = rk at *
    generalize (canL (mkD p m mo) L n).map frow = cl at *
    generalize gil (pivL (mkD p m mo) L n) = pv at *
    have st := fun R => sr_all (R := R) (cs' := [I n, .fs rk cl]) g4 (n := 2) rfl rfl rfl
    have l4 := lq_both (hset_same G b4 [I n, .fs rk cl])
    simp [l30, st, l4]
    exact ⟨_, (hk.set n4 _).sub, .id _, rfl⟩
  · rw [if_neg he, if_neg he]
    generalize openE p m mo [(c, L)] = e at *
    subst hC
    have st0 := fun R => sr_all (R := R) (cs' := [I 0, .nils]) g4 (n := 2) rfl rfl rfl
    rw [hset_id g4] at st0
    have l4 := lq_both g4
    simp [he, st0, l4]
    exact ⟨_, hk.sub, .id _, rfl⟩

noncomputable def rankR (p m : Int) (mo : List Int) (c : Int) (L : List (List Int)) : AV :=
  if openE p m mo [(c, L)] = 0 then .tup [I (rkN (mkD p m mo) L c.toNat : Nat), I 0] else .tup [I 0, I (openE p m mo [(c, L)])]
theorem s_Rank {p m : Int} {mv v : AV} {mo : List Int} (hmv : IL mv mo) (hml : mo.length < 4611686018427387904) {c : Int} {L : List (List Int)} (hv : ML v L) (hs : MSm L) :
    Pure prog n_matrix_Rank [.agg [I p, I m, mv], .agg [I c, v]] (rankR p m mo c L) := by
  refine pure_of cf_matrix_Rank rfl fun h => ?_
  have hone := hmv.one
  have hone2 := hv.one
  simp [hone, hone2]
  intro b2 hb2 b3 hb3
  have g2 : (hset (hset h b2 [I p, I m, mv]) b3 [I c, v]) b2 = some [I p, I m, mv] := (Kp.refl _).new hb3 _ b2 _ (hset_same ..)
  have g3 : (hset (hset h b2 [I p, I m, mv]) b3 [I c, v]) b3 = some [I c, v] := hset_same ..
  have hk : Kp h (hset (hset h b2 [I p, I m, mv]) b3 [I c, v]) := ((Kp.refl h).new hb2 _).new hb3 _
  generalize hset (hset h b2 [I p, I m, mv]) b3 [I c, v] = g at *
  obtain ⟨_, _, _, l2⟩ := ld3_at g2
  have l3 := lq_both g3
  simp [l2, l3]
  refine (s_Canonical hmv hml hv hs).call ?_
  unfold canR rankR
  by_cases he : openE p m mo [(c, L)] = 0
  · rw [if_pos he, if_pos he]
    have hpo := (gil_IL (pivL (mkD p m mo) L c.toNat)).len
    rw [pivL_len] at hpo
    have hro : one (.fs (rkN (mkD p m mo) L c.toNat) ((canL (mkD p m mo) L c.toNat).map frow)) = true := rfl
    generalize AV.fs (rkN (mkD p m mo) L c.toNat) ((canL (mkD p m mo) L c.toNat).map frow) = rv at *
    generalize gil (pivL (mkD p m mo) L c.toNat) = pv at *
    simp
    intro b6 hb6
    have st := fun R => sr_all (R := R) (cs' := [I c, rv]) (hset_same g b6 [I 0, .nils]) (n := 2) rfl rfl (by show (one (I c) && (one rv && true)) = true; rw [hro]; rfl)
    simp [st, hpo]
    exact ⟨_, (hk.new hb6 _).sub, .id _, rfl⟩
  · rw [if_neg he, if_neg he]
    generalize openE p m mo [(c, L)] = e at *
    simp
    intro b6 hb6
    have st := fun R => sr_all (R := R) (cs' := [I 0, .nils]) (hset_same g b6 [I 0, .nils]) (n := 2) rfl rfl rfl
    simp [st]
    exact ⟨_, (hk.new hb6 _).sub, .id _, rfl⟩
end Go.AM.Ytmihmgnjnedfcab
end

section
/- Contracts of functions: the reference's inverse, scale, Copy, Eliminate, Canon, Check, Canonical. -/
set_option maxRecDepth 100000
set_option linter.unusedSimpArgs false
set_option linter.unusedVariables false
namespace Go.AM.Ytmihmgnjnedfcab
open Go Go.AM
attribute [local simp ↓] awp_seq awp_reg awp_skip awp_cond' awp_block awp_exit awp_ret awp_fz thenW_normal thenW_exit thenW_ret inBlk_normal inBlk_exit inBlk_ret aops_cons' contA_ap aops_nil e_mv e_guard' e_pick' e_ld' e_app e_cpy e_st' e_call callW_f updO_some updO_none e_bin' e_isnil' e_fadr' e_iadr' e_iarr' e_len' e_build' e_mkf' e_nc' e_not' e_neg' e_cvt' e_slc' e_fld' e_ext' e_min' e_eqs' e_new e_box e_mkl e_mks
attribute [local simp] upd_apply ev_t ev_k ev_f binA_add binA_sub binA_mul binA_quo binA_rem binA_eql binA_neq binA_lss binA_leq binA_gtr binA_geq det mem frame0 keeps_nil iadrA_sl fadrA_ref fadrA_fp ldv_agg ldv_one cells_base hset_same hset_hset lenA_fs lenA_sl lenA_nils zeros_ints ints_length one_base one_nilp one_nils one_ref one_sl one_fp one_fs one_fn gl_one resA resOf bound natOf afill splice AV.cells cells_agg bindR_some condR_true condR_false guardR_tup guardR_true guardR_true' guardR_false guardR_false' allocW_some pickA_true pickA_false
open Go.FM

theorem inv_unique {D : Ds} (r : Fd D) {x y : Int} (hy : D.R y) (h : D.mul x y = 1) : y = invD D x := by
  have h0 : D.inn x ≠ 0 := fun h0 => by
    rw [← r.toOk.inn_mul', h0, r.toOk.zero_mul] at h; omega
  have h1 := mul_inv r h0
  have : D.mul (invD D x) (D.mul x y) = D.mul (D.mul (invD D x) x) y := (r.toOk.mul_assoc _ _ _).symm
  rw [h, r.toOk.mul_one, r.toOk.mul_comm (invD D x) x, h1, r.toOk.one_mul, Ds.inn_of hy, Ds.inn_of (invR r.toOk x)] at this
  exact this.symm

theorem s_refInv {D : Ds} (r : Fd D) {mv : AV} (hmv : IL mv D.mo) (x : Int) : Pure prog n_ref04_Inv [.agg [I D.p, I D.m, mv], I x] (I (invD D x)) := by
  refine pure_of cf_ref04_Inv rfl fun h => ?_
  have hone := hmv.one
  have hord := s_Order (D.p : Int) D.m hone
  rw [r.toRg.ord] at hord
  have hq2 := r.toOk.q2
  have hq256 := r.q256
  simp [hone]
  intro b2 hb2
  obtain ⟨_, _, _, l3⟩ := ld3_at (hset_same h b2 [I D.p, I D.m, mv])
  have hkg : Kp h (hset h b2 [I D.p, I D.m, mv]) := (Kp.refl h).new hb2 _
  generalize hset h b2 [I D.p, I D.m, mv] = g at *
  refine awp_for (D.q - 1) (fun k fr' h' => h' = g ∧ fr' 5 = I (k + 1 : Nat) ∧ ∀ z : Nat, 1 ≤ z → z ≤ k → D.mul x z ≠ 1) ⟨rfl, by simp, fun z h1 h2 => by omega⟩ ?_
  intro k fr' h' hkn hk ⟨hh, k5, hz⟩
  subst hh
  have k1 := hk 1 (by decide)
  have k2 := hk 2 (by decide)
  simp at k1 k2
  clear hk
  simp [k5, k2, l3]
  refine hord.call ?_
  by_cases hlt : k + 1 < D.q
  · have hlt' : (k : Int) + 1 < D.q := by omega
    have hR : D.R ((k + 1 : Nat) : Int) := ⟨by omega, by omega⟩
    have u1 : IntKind.i64.wrap ((k : Int) + 1 + 1) = (k : Int) + 1 + 1 := w64 _ (by omega)
    have hm := s_refMul r.toRg hmv x ((k : Int) + 1)
    have hk1 : (((k + 1 : Nat) : Int)) = (k : Int) + 1 := by omega
    have hun := fun h => inv_unique r (x := x) (y := (k : Int) + 1) (by rw [← hk1]; exact hR) h
    have hzn := fun (hne : D.mul x ((k : Int) + 1) ≠ 1) => (fun z h1 h2 => by
      by_cases e : z = k + 1
      · rw [e, hk1]; exact hne
      · exact hz z h1 (by omega) : ∀ z : Nat, 1 ≤ z → z ≤ k + 1 → D.mul x z ≠ 1)
    generalize D.mul x ((k : Int) + 1) = y at *
    simp [hlt', k1, k2, k5, l3]
    refine hm.call ?_
    by_cases hy : y = 1
    · simp [hy, k5]
      rw [← hun hy]
      exact ⟨_, hkg.sub, .id _, rfl⟩
    · have hkq : k < D.q - 1 := by omega
      simp [hy, k5, u1, hkq]
      exact hzn hy
  · have hlt' : ¬ (k : Int) + 1 < D.q := by omega
    have h0 : invD D x = 0 := by
      by_cases hi : D.inn x = 0
      · unfold invD; rw [if_pos hi]
      · have h1 := mul_inv r hi
        have hR := invR r.toOk x
        apply Classical.byContradiction
        intro hne
        have := hz (invD D x).toNat (by have := hR.1; omega) (by have := hR.2; omega)
        rw [show (((invD D x).toNat : Nat) : Int) = invD D x by have := hR.1; omega] at this
        exact this h1
    simp [hlt', h0]
    exact ⟨_, hkg.sub, .id _, rfl⟩

theorem s_refscale {D : Ds} (r : Fd D) {mv : AV} (hmv : IL mv D.mo) (a : Int) {h : Hp} {v : AV} {l : List Int} (hv : RS h v l) (hl : l.length ≤ 4294967296) :
    PureH prog n_ref09_scale [.agg [I D.p, I D.m, mv], I a, v] h (.fs l.length (ints (scV D a l))) := by
  refine pureH_of cf_ref09_scale rfl ?_
  have hone := hmv.one
  have hl' : (l.length : Int) ≤ 4294967296 := by omega
  have hN := scV_len D a l
  have hNg := fun k hk => scV_get (D := D) (a := a) (l := l) (k := k) hk
  generalize scV D a l = N at *
  simp [hone, hv.len, hl']
  intro b3 hb3
  have hv2 := hv.mono ((Kp.refl h).new hb3 [I D.p, I D.m, mv])
  have hkg : Kp h (hset h b3 [I D.p, I D.m, mv]) := (Kp.refl h).new hb3 _
  have hg3 : (hset h b3 [I D.p, I D.m, mv]) b3 = some [I D.p, I D.m, mv] := hset_same ..
  generalize hset h b3 [I D.p, I D.m, mv] = g at *
  intro b hb
  refine awp_for l.length (fun k fr' h' => Kp g h' ∧ h' b = some (ints (N.take k ++ (List.replicate l.length 0).drop k)) ∧ fr' 8 = I k) ⟨(Kp.refl g).new hb _, by simp [hset_same], by simp⟩ ?_
  intro k fr' h' hkn hk ⟨hkp, hbk, k8⟩
  have k1 := hk 1 (by decide)
  have k2 := hk 2 (by decide)
  have k3 := hk 3 (by decide)
  have k7 := hk 7 (by decide)
  simp at k1 k2 k3 k7
  clear hk
  have hzl : (List.replicate l.length (0 : Int)).length = l.length := by simp
  generalize List.replicate l.length (0 : Int) = Z at *
  by_cases hlt : k < l.length
  · obtain ⟨x, hx1, hx2⟩ := hv2.rdk hlt
    have hx3 := hx2 _ hkp
    have hst := fun R => sr_ints (R := R) (v := N.getD k 0) hbk (k := k) (by rw [tk_len (by omega) (by omega)]; omega)
    rw [tk_set (by omega) (by omega)] at hst
    have u1 : IntKind.i64.wrap ((k : Int) + 1) = k + 1 := w64 _ (by omega)
    have hnk := hNg k hlt
    obtain ⟨_, _, _, m3⟩ := ld3_at (hkp b3 _ hg3)
    generalize l.getD k 0 = y at *
    rw [hnk] at hst
    simp [k1, k2, k3, k7, k8, hv.len, hlt, hx1, hx3, m3]
    refine (s_refMul r.toRg hmv a y).call ?_
    simp [k8, u1, hst, hlt]
    exact hkp.set hb _
  · have : k = l.length := by omega
    subst this
    rw [List.take_of_length_le (by omega), List.drop_eq_nil_of_le (by omega), List.append_nil] at hbk
    simp [k2, k7, k8, hv.len]
    exact ret_blk hbk (hkg.no hb) (hkg.trans hkp) (by rw [ints_length]; omega) rfl

/-- A copy, the outer block live, the rows frozen. -/
theorem w_Copy {v : AV} {L : List (List Int)} (hv : ML v L) (h0 : 0 < L.length) (hL : L.length ≤ 65536) (hw : ∀ row ∈ L, row.length ≤ 4294967296) (h : Hp) :
    Spec prog n_ref09_Copy [v] h (fun v' h' => ∃ o, v' = .sl o 0 L.length 1 ∧ h o = none ∧ h' = hset h o (L.map frow)) := by
  refine Spec.fz (spec_of cf_ref09_Copy rfl ?_)
  simp
  refine awp_for L.length (fun k fr' h' => GrM h h' (fr' 3) (L.take k) ∧ fr' 4 = I k) ⟨by simpa using GrM.nils h, by simp⟩ ?_
  intro k fr' h' hkn hk ⟨g, k4⟩
  have k0 := hk 0 (by decide)
  simp at k0
  clear hk
  by_cases hlt : k < L.length
  · have u1 : IntKind.i64.wrap ((k : Int) + 1) = k + 1 := w64 _ (by omega)
    obtain ⟨pa, row, hpa, hpl, hrow⟩ := hv.rd hlt
    have hm := hw _ (mem_getD (d := []) hlt)
    have htl : (L.take k).length = k := by rw [List.length_take]; omega
    rw [take_getD (d := []) hlt]
    generalize L.getD k [] = rl at *
    simp [k0, k4, hv.len, hlt, hpa, hpl]
    intro b12 hb12
    refine app_empty (hset_same ..) hrow hm fun b' hb' => ?_
    have hb2 : h' b' = none := by
      rcases hb' with rfl | hb'
      · exact hb12
      · by_cases e : b' = b12
        · rw [e]; exact hb12
        · rwa [hset_ne _ _ e] at hb'
    simp
    intro b18 hb18
    have gn : GrP h (hset (hset h' b12 []) b' (ints rl)) (fr' 3) (L.take k) b' rl := by
      by_cases e : b' = b12
      · subst e; rw [hset_hset]; exact g.new hb2 rl
      · have := (g.new hb2 rl)
        obtain ⟨F, bs, ow, rw1, hF⟩ := this
        rw [hset_comm (Ne.symm e)]
        exact ⟨F, bs, ow.junk (by rw [hset_ne _ _ (Ne.symm e)]; exact hb12) _, rw1, hF⟩
    refine gn.app hb18 (by omega) fun v' h3 g3 => ?_
    simp [k4, u1, hlt]
    exact g3
  · have : k = L.length := by omega
    subst this
    rw [List.take_length] at g
    obtain ⟨kp, o, bs, hv3, lm, ho, hbs⟩ := g.live h0
    simp [k0, k4, hv.len]
    refine ⟨hset h o (L.map frow), fun b cs hb => ?_, _, .id _, o, hv3, ho, rfl⟩
    by_cases e : b = o
    · subst e
      rw [hset_same] at hb
      injection hb with hb
      subst hb
      refine ⟨_, lm.out, by simp, fun j hj hk => ?_⟩
      have hj' : j < L.length := by simpa using hk
      have hf := Frz.slk (h := h') (h' := hset h b (L.map frow)) (len := (L.getD j []).length) (sz := 1) (lm.row j hj') (by rw [hset_ne _ _ (lm.ne j hj')]; exact hbs j hj') (by rw [ints_length, Nat.mul_one])
      simp [List.getD, hj', Option.getD, frow] at hf ⊢
      exact hf
    · rw [hset_ne _ _ e] at hb
      exact ⟨cs, kp _ _ hb, rfl, fun j _ _ => .id _⟩

set_option maxHeartbeats 2000000 in
theorem s_refNeg {D : Ds} (r : Rg D) {mv : AV} (hmv : IL mv D.mo) (x : Int) : Pure prog n_ref04_Neg [.agg [I D.p, I D.m, mv], I x] (I (D.neg x)) := by
  refine pure_of cf_ref04_Neg rfl fun h => ?_
  have hone := hmv.one
  have hp2 := r.p2
  have hm1 := r.m1
  have hm8 := r.m8
  have hp256 := r.p256
  simp [hone]
  intro b2 hb2
  obtain ⟨l0, l1, l2, l3⟩ := ld3_at (hset_same h b2 [I D.p, I D.m, mv])
  have hkg : Kp h (hset h b2 [I D.p, I D.m, mv]) := (Kp.refl h).new hb2 _
  have hg2 : (hset h b2 [I D.p, I D.m, mv]) b2 = some [I D.p, I D.m, mv] := hset_same ..
  generalize hset h b2 [I D.p, I D.m, mv] = g at *
  have hneg : D.neg x = val D.p (red D.p D.m (fun j => -1 * vl (digs D.p D.m (D.inn x)) j)) := rfl
  rw [hneg]
  clear hneg
  have hla := digs_length (D.p : Int) D.m (D.inn x)
  have hda := digs_Dg r.p0 D.m (D.inn x)
  simp [l3]
  refine call0 (w_refDigits r hone x g) fun v h1 ⟨c1, b5, c2, c3, c4⟩ => ?_
  subst c3
  generalize digs (D.p : Int) D.m (D.inn x) = xa at *
  obtain ⟨vv, hvv⟩ : ∃ vv : FM.V, vv = fun j => -1 * vl xa j := ⟨_, rfl⟩
  have hvv2 : (fun j => -vl xa j) = vv := by rw [hvv]; funext j; omega
  try rw [← hvv]
  try rw [hvv2]
  rw [hla]
  simp
  have hN := red_length (D.p : Int) D.m vv
  have hNd := red_Dg r.p0 D.m vv
  have hNg : ∀ j, j < D.m → (red D.p D.m vv).getD j 0 = ((D.p : Int) - xa.getD j 0) % D.p := fun j hj => by
    have := vl_red (p := D.p) (v := vv) hj
    rw [vl_getD] at this
    rw [this, hvv]
    show (-1 * xa.getD j 0) % (D.p : Int) = _
    rw [show (D.p : Int) - xa.getD j 0 = -1 * xa.getD j 0 + D.p by omega, Int.add_emod_right]
  clear hvv hvv2
  generalize red (D.p : Int) D.m vv = N at *
  refine awp_for D.m (fun k fr' h' => Kp g h' ∧ h' b5 = some (ints (N.take k ++ xa.drop k)) ∧ fr' 6 = I k) ⟨c1, by simpa using c4, by simp⟩ ?_
  intro k fr' h' hkn hk ⟨hkp, hb, k6⟩
  have k2 := hk 2 (by decide)
  have k5 := hk 5 (by decide)
  simp at k2 k5
  clear hk
  obtain ⟨p0, p1, p2, p3⟩ := ld3_at (hkp b2 _ hg2)
  by_cases hlt : k < D.m
  · have hldo := ld_ints_at hb (k := k) (by rw [tk_len (by omega) (by omega)]; omega)
    rw [tk_get (by omega), if_neg (by omega)] at hldo
    have hst := fun R => sr_ints (R := R) (v := N.getD k 0) hb (k := k) (by rw [tk_len (by omega) (by omega)]; omega)
    rw [tk_set (by omega) (by omega)] at hst
    have ra := Dg_getD hda (j := k) (by omega)
    have hnk := hNg k hlt
    generalize N.getD k 0 = nk at *
    generalize xa.getD k 0 = ak at *
    have u1 : IntKind.i64.wrap ((D.p : Int) - ak) = D.p - ak := w64 _ (by omega)
    have t1 : ((D.p : Int) - ak).tmod D.p = nk := by rw [Int.tmod_eq_emod_of_nonneg (by omega), hnk]
    have u2 : IntKind.i64.wrap ((k : Int) + 1) = k + 1 := w64 _ (by omega)
    have hp0 : (D.p : Int) ≠ 0 := by omega
    have hp0' : D.p ≠ 0 := by omega
    simp [k2, k5, k6, hlt, hldo, p0, u1, t1, u2, hp0, hp0', hst]
    exact hkp.set c2 _
  · have : k = D.m := by omega
    subst this
    rw [List.take_of_length_le (by omega), List.drop_eq_nil_of_le (by omega), List.append_nil] at hb
    simp [k5, k6]
    refine Fz_one (g := g) (s := 5) (n := D.m) (sz := 1) (by simp [k5]) hb c2 hkp (by rw [ints_length]; omega) ?_
    have hIo := IL.fs N
    rw [hN] at hIo
    simp [k2, l3]
    refine (s_Value hIo hone (m := D.m) (p := D.p) (by omega) (by omega) hNd (by rw [hN]; exact r.pm) (by omega)).call ?_
    simp
    exact ⟨_, hkg.sub, .id _, rfl⟩
end Go.AM.Ytmihmgnjnedfcab
end

section
/- Contracts of functions: the reference's Eliminate and Canon. -/
set_option maxRecDepth 100000
set_option linter.unusedSimpArgs false
set_option linter.unusedVariables false
namespace Go.AM.Ytmihmgnjnedfcab
open Go Go.AM
attribute [local simp ↓] awp_seq awp_reg awp_skip awp_cond' awp_block awp_exit awp_ret awp_fz thenW_normal thenW_exit thenW_ret inBlk_normal inBlk_exit inBlk_ret aops_cons' contA_ap aops_nil e_mv e_guard' e_pick' e_ld' e_app e_cpy e_st' e_call callW_f updO_some updO_none e_bin' e_isnil' e_fadr' e_iadr' e_iarr' e_len' e_build' e_mkf' e_nc' e_not' e_neg' e_cvt' e_slc' e_fld' e_ext' e_min' e_eqs' e_new e_box e_mkl e_mks
attribute [local simp] upd_apply ev_t ev_k ev_f binA_add binA_sub binA_mul binA_quo binA_rem binA_eql binA_neq binA_lss binA_leq binA_gtr binA_geq det mem frame0 keeps_nil iadrA_sl fadrA_ref fadrA_fp ldv_agg ldv_one cells_base hset_same hset_hset lenA_fs lenA_sl lenA_nils zeros_ints ints_length one_base one_nilp one_nils one_ref one_sl one_fp one_fs one_fn gl_one resA resOf bound natOf afill splice AV.cells cells_agg bindR_some condR_true condR_false guardR_tup guardR_true guardR_true' guardR_false guardR_false' allocW_some pickA_true pickA_false
open Go.FM

/-- Frozen rows. -/
def fL (L : List (List Int)) : List AV := L.map frow
theorem fL_len (L : List (List Int)) : (fL L).length = L.length := by simp [fL]
theorem frow_set (L : List (List Int)) (i : Nat) (l : List Int) : (fL L).set i (frow l) = fL (L.set i l) := by simp [fL, List.map_set]
theorem frow_getD {L : List (List Int)} {i : Nat} (hi : i < L.length) : (fL L).getD i .nils = frow (L.getD i []) := map_getD' frow L i [] .nils hi
theorem frow_cell (l : List Int) : (frow l).cells = [frow l] ∧ one (frow l) = true := ⟨rfl, rfl⟩

/-- The state of the reference's elimination: the outer block o, beside G. -/
structure EG (D : Ds) (mv : AV) (o c a b3 : Nat) (v : AV) (n : Nat) (cs : List AV) (G : Hp) (fr : Fr) (h : Hp) (L : List (List Int)) : Prop where
  f3 : fr 3 = .ref b3 0
  f8 : fr 8 = .sl o 0 L.length 1
  f9 : fr 9 = v
  f10 : fr 10 = I a
  f11 : fr 11 = I c
  g3 : G b3 = some [I D.p, I D.m, mv]
  go : G o = none
  own : Own 1 (hset G o (fL L)) h v n cs
  al : a < L.length
  ll : L.length ≤ 65536
  mt : ∃ W, W ≤ 4294967296 ∧ c < W ∧ Mat D W L

section
variable {D : Ds} {mv : AV} {o c a b3 : Nat} {v : AV} {n : Nat} {cs : List AV} {G : Hp} {fr : Fr} {h : Hp} {L : List (List Int)} {K : AE → Fr → Hp → Prop}

theorem EG.out (e : EG D mv o c a b3 v n cs G fr h L) : h o = some (fL L) := e.own.rd (hset_same ..)
theorem EG.ldF (e : EG D mv o c a b3 v n cs G fr h L) : cellsAt h (.ref b3 0) 3 = some [I D.p, I D.m, mv] := by
  have : b3 ≠ o := fun he => by have := e.g3; rw [he, e.go] at this; cases this
  exact (ld3_at (e.own.rd (by rw [hset_ne _ _ this]; exact e.g3))).2.2.2
theorem EG.ld (e : EG D mv o c a b3 v n cs G fr h L) {i : Nat} (hi : i < L.length) : cellsAt h (.ref o i) 1 = some [.fs (L.getD i []).length (ints (L.getD i []))] ∧ IL (.fs (L.getD i []).length (ints (L.getD i []))) (L.getD i []) ∧ c < (L.getD i []).length := by
  obtain ⟨W, h1, h2, h3⟩ := e.mt
  refine ⟨?_, IL.fs _, by rw [h3.len hi]; exact h2⟩
  rw [ld_one_at e.out (by rw [fL_len]; exact hi), frow_getD hi]
  rfl
theorem EG.next {fr' : Fr} (e : EG D mv o c a b3 v n cs G fr h L) (k3 : fr' 3 = fr 3) (k8 : fr' 8 = fr 8) (k9 : fr' 9 = fr 9) (k10 : fr' 10 = fr 10) (k11 : fr' 11 = fr 11) : EG D mv o c a b3 v n cs G fr' h L :=
  ⟨k3.trans e.f3, k8.trans e.f8, k9.trans e.f9, k10.trans e.f10, k11.trans e.f11, e.g3, e.go, e.own, e.al, e.ll, e.mt⟩
/-- A row is put in place. -/
theorem EG.put (e : EG D mv o c a b3 v n cs G fr h L) {i : Nat} (hi : i < L.length) (l : List Int) : (∀ R : AV → Hp → Prop, stR (.ref o i) (.fs l.length (ints l)) 1 h R = R (.tup []) (hset h o (fL (L.set i l)))) ∧
    Own 1 (hset G o (fL (L.set i l))) (hset h o (fL (L.set i l))) v n cs := by
  refine ⟨fun R => ?_, ?_⟩
  · have := sr_one (R := R) (v := frow l) (k := i) e.out (frow_cell l).1 (frow_cell l).2 (by rw [fL_len]; exact hi)
    rw [frow_set] at this
    exact this
  · have := e.own.put (b := o) (hset_same ..) (fL (L.set i l))
    rwa [hset_hset] at this
theorem EG.upd {fr' : Fr} {h' : Hp} {L' : List (List Int)} (e : EG D mv o c a b3 v n cs G fr h L) (k3 : fr' 3 = fr 3) (k8 : fr' 8 = fr 8) (k9 : fr' 9 = fr 9) (k10 : fr' 10 = fr 10) (k11 : fr' 11 = fr 11) (hl : L'.length = L.length)
    (own : Own 1 (hset G o (fL L')) h' v n cs) (mt : ∀ W, Mat D W L → Mat D W L') : EG D mv o c a b3 v n cs G fr' h' L' := by
  obtain ⟨W, h1, h2, h3⟩ := e.mt
  exact ⟨k3.trans e.f3, (k8.trans e.f8).trans (by rw [hl]), k9.trans e.f9, k10.trans e.f10, k11.trans e.f11, e.g3, e.go, own, by rw [hl]; exact e.al, by rw [hl]; exact e.ll, W, h1, h2, mt W h3⟩

set_option maxHeartbeats 1000000 in
/-- The other rows are cleared. -/
theorem rl_b5 (r : Fd D) (hmv : IL mv D.mo) (e : EG D mv o c a b3 v n cs G fr h L)
    (k : ∀ fr' h', EG D mv o c a b3 v n cs G fr' h' (clrL D L c a L.length) → awp prog c_ref09_EliminateB1_6 K fr' h') : awp prog c_ref09_EliminateB1_5 K fr h := by
  unfold c_ref09_EliminateB1_5
  generalize hC : c_ref09_EliminateB1_6 = C6 at *
  simp
  refine awp_for L.length (fun i fr' h' => Own 1 (hset G o (fL (clrL D L c a i))) h' v n cs ∧ fr' 13 = I i) ⟨e.own, by simp⟩ ?_
  intro i fr' h' hin hk ⟨own, k13⟩
  have k3 := hk 3 (by decide)
  have k8 := hk 8 (by decide)
  have k9 := hk 9 (by decide)
  have k10 := hk 10 (by decide)
  have k11 := hk 11 (by decide)
  simp at k3 k8 k9 k10 k11
  clear hk
  obtain ⟨W, hW1, hW2, hM⟩ := e.mt
  have hcl := clrL_len D L c a i
  have hMi := hM.clr r.toOk c a i hin
  have e' := e.upd (fr' := fr') (h' := h') k3 k8 k9 k10 k11 hcl own fun W hM => hM.clr r.toOk c a i hin
  by_cases hlt : i < L.length
  · have hcs : clrL D L c a (i + 1) = rowC D (clrL D L c a i) c a i := rfl
    rw [hcs]
    have hltL := hlt
    have hal := e'.al
    generalize clrL D L c a i = M at *
    rw [← hcl] at hlt
    have hlt' : (i : Int) < M.length := by omega
    have hal' : (a : Int) < M.length := by omega
    have u1 : IntKind.i64.wrap ((i : Int) + 1) = i + 1 := w64 _ (by have := e'.ll; omega)
    have p3 := e'.f3
    have p8 := e'.f8
    have p10 := e'.f10
    have p11 := e'.f11
    obtain ⟨q1, q2, q3⟩ := e'.ld hlt
    obtain ⟨t1, t2, t3⟩ := e'.ld hal
    have lF := e'.ldF
    have hia2 := q2.iadr (i := c) ⟨by omega, by omega⟩
    rw [Int.toNat_natCast] at hia2
    have hld := fun h' => ld_ints (h := h') q3
    have hput := fun l => e'.put hlt l
    have hlenE : (M.getD i []).length = (M.getD a []).length := by rw [hMi.len hlt, hMi.len hal]
    have hlenW : (M.getD i []).length ≤ 4294967296 := by rw [hMi.len hlt]; exact hW1
    unfold rowC
    unfold c_ref09_EliminateL2_0 c_ref09_EliminateL2_1
    generalize hD : c_ref09_EliminateL2_2 = D2
    by_cases hia : i = a
    · subst hia
      simp [k13, p8, p10, p11, hlt, hlt']
      subst hD
      simp [k13, u1, hltL]
      exact own
    · have hia' : ¬ (i : Int) = a := by omega
      generalize hx : (M.getD i []).getD c 0 = x at *
      by_cases hx0 : x = 0
      · generalize M.getD i [] = ri at *
        simp [k13, p8, p10, p11, hlt, hlt', hia, hia', q1, hia2, hld, hx, hx0]
        subst hD
        simp [k13, u1, hltL]
        exact own
      · have hneg := s_refNeg r.toRg hmv x
        have hadd := s_AddTo r hmv (h := h') (v := .fs (M.getD i []).length (ints (M.getD i []))) (u := .fs (M.getD a []).length (ints (M.getD a []))) (.of q2) (.of t2) (by omega) hlenW (D.neg x)
        rw [if_pos ⟨hia, hx0⟩]
        obtain ⟨s1, s2⟩ := hput (addV D (M.getD i []) (D.neg x) (M.getD a []))
        rw [addV_len] at s1
        generalize M.getD i [] = ri at *
        generalize M.getD a [] = ra at *
        simp [k13, p3, p8, p10, p11, hlt, hlt', hal, hal', hia, hia', q1, t1, hia2, hld, hx, hx0, lF]
        refine hneg.call ?_
        simp [p11]
        refine hadd.call ?_
        simp [hlt, s1]
        subst hD
        simp [k13, u1, hltL]
        exact s2
  · have : i = L.length := by omega
    subst this
    have p8 := e'.f8
    rw [hcl] at p8
    simp [k13, p8]
    exact k _ _ (e'.next (by simp) (by simp) (by simp) (by simp) (by simp))

set_option maxHeartbeats 1000000 in
/-- The pivot's row is multiplied by the inverse of the pivot. -/
theorem rl_b4 (r : Fd D) (hmv : IL mv D.mo) (e : EG D mv o c a b3 v n cs G fr h L) (h0 : (L.getD a []).getD c 0 ≠ 0)
    (k : ∀ fr' h', EG D mv o c a b3 v n cs G fr' h' (pvt D L a c) → awp prog c_ref09_EliminateB1_5 K fr' h') : awp prog c_ref09_EliminateB1_4 K fr h := by
  unfold c_ref09_EliminateB1_4
  generalize hC : c_ref09_EliminateB1_5 = C5 at *
  obtain ⟨W, hW1, hW2, hM⟩ := e.mt
  have hal := e.al
  have hal' : (a : Int) < L.length := by omega
  have p3 := e.f3
  have p8 := e.f8
  have p10 := e.f10
  have p11 := e.f11
  obtain ⟨t1, t2, t3⟩ := e.ld hal
  have lF := e.ldF
  have hia2 := t2.iadr (i := c) ⟨by omega, by omega⟩
  rw [Int.toNat_natCast] at hia2
  have hld := fun h' => ld_ints (h := h') t3
  have hput := fun l => e.put hal l
  have hlenW : (L.getD a []).length ≤ 4294967296 := by rw [hM.len hal]; exact hW1
  have hpv : pvt D L a c = if (L.getD a []).getD c 0 ≠ 1 then L.set a (scV D (invD D ((L.getD a []).getD c 0)) (L.getD a [])) else L := rfl
  have hnx := fun (fr' : Fr) (h' : Hp) q3 q8 q9 q10 q11 own => e.upd (fr' := fr') (h' := h') (L' := pvt D L a c) q3 q8 q9 q10 q11 (pvt_len ..) own fun W hM => hM.pvt r.toOk e.al c
  rw [hpv] at k hnx
  generalize hx : (L.getD a []).getD c 0 = x at *
  by_cases hx1 : x = 1
  · rw [if_neg (by simpa using hx1)] at k hnx
    generalize L.getD a [] = ra at *
    simp [p8, p10, p11, hal, hal', t1, hia2, hld, hx, hx1]
    exact k _ _ (hnx _ _ (by simp) (by simp) (by simp) (by simp) (by simp) e.own)
  · rw [if_pos hx1] at k hnx
    have hinv := s_refInv r hmv x
    have hsc := s_refscale r hmv (invD D x) (h := h) (v := .fs (L.getD a []).length (ints (L.getD a []))) (.of t2) hlenW
    obtain ⟨s1, s2⟩ := hput (scV D (invD D x) (L.getD a []))
    rw [scV_len] at s1
    generalize L.getD a [] = ra at *
    simp [p3, p8, p10, p11, hal, hal', t1, hia2, hld, hx, hx1, lF]
    refine hinv.call ?_
    simp
    refine hsc.call ?_
    simp [hal, s1]
    exact k _ _ (hnx _ _ (by simp) (by simp) (by simp) (by simp) (by simp) s2)

/-- Two rows are exchanged. -/
theorem rl_b3 (r : Fd D) (e : EG D mv o c a b3 v n cs G fr h L) {kk : Nat} (f12 : fr 12 = I kk) (hk : kk < L.length)
    (k : ∀ fr' h', EG D mv o c a b3 v n cs G fr' h' (swL L a kk) → awp prog c_ref09_EliminateB1_4 K fr' h') : awp prog c_ref09_EliminateB1_3 K fr h := by
  unfold c_ref09_EliminateB1_3
  generalize hC : c_ref09_EliminateB1_4 = C4 at *
  have hal := e.al
  have hal' : (a : Int) < L.length := by omega
  have hk' : (kk : Int) < L.length := by omega
  have p8 := e.f8
  have p10 := e.f10
  obtain ⟨t1, t2, t3⟩ := e.ld hal
  obtain ⟨q1, q2, q3⟩ := e.ld hk
  obtain ⟨s1, s2⟩ := e.put hal (L.getD kk [])
  have s3 := fun R : AV → Hp → Prop => sr_one (R := R) (v := frow (L.getD a [])) (k := kk) (hset_same h o (fL (L.set a (L.getD kk [])))) (frow_cell _).1 (frow_cell _).2 (by rw [fL_len, List.length_set]; exact hk)
  rw [frow_set, hset_hset] at s3
  have own := e.own.put (b := o) (hset_same ..) (fL (swL L a kk))
  rw [hset_hset] at own
  have hsw : (L.set a (L.getD kk [])).set kk (L.getD a []) = swL L a kk := rfl
  rw [hsw] at s3
  have hnx := fun (fr' : Fr) q3 q8 q9 q10 q11 => e.upd (fr' := fr') (L' := swL L a kk) q3 q8 q9 q10 q11 (swL_len ..) own fun W hM => hM.sw hal hk
  unfold frow at s3
  generalize swL L a kk = L2 at *
  generalize L.getD a [] = ra at *
  generalize L.getD kk [] = rk at *
  simp [p8, p10, f12, hal, hal', hk, hk', t1, q1, s1, s3]
  exact k _ _ (hnx _ (by simp) (by simp) (by simp) (by simp) (by simp))

set_option maxHeartbeats 1000000 in
/-- A row with an entry in the column is looked for. -/
theorem rl_b1 (r : Fd D) (e : EG D mv o c a b3 v n cs G fr h L) (f12 : fr 12 = I a)
    (k : ∀ fr', EG D mv o c a b3 v n cs G fr' h L → fr' 12 = I (fnd L c (L.length - a) a : Nat) → awp prog c_ref09_EliminateB1_2 K fr' h) : awp prog c_ref09_EliminateB1_1 K fr h := by
  unfold c_ref09_EliminateB1_1
  generalize hC : c_ref09_EliminateB1_2 = C2 at *
  have hal := e.al
  have hll := e.ll
  simp
  refine awp_for (L.length - a) (fun j fr' h' => h' = h ∧ fr' 12 = I (a + j : Nat) ∧ ∀ i, a ≤ i → i < a + j → (L.getD i []).getD c 0 = 0) ⟨rfl, f12, fun i h1 h2 => by omega⟩ ?_
  intro j fr' h' hjn hk ⟨hh, k12, hz⟩
  subst hh
  have k3 := hk 3 (by decide)
  have k8 := hk 8 (by decide)
  have k9 := hk 9 (by decide)
  have k10 := hk 10 (by decide)
  have k11 := hk 11 (by decide)
  clear hk
  have e' := e.next (fr' := fr') k3 k8 k9 k10 k11
  obtain ⟨q, hq⟩ : ∃ q, q = a + j := ⟨_, rfl⟩
  have hq1 : a + (j + 1) = q + 1 := by omega
  rw [← hq] at k12 hz
  rw [hq1]
  have p8 := e'.f8
  have p11 := e'.f11
  by_cases hlt : q < L.length
  · obtain ⟨q1, q2, q3⟩ := e'.ld hlt
    have hlt' : (q : Int) < L.length := by omega
    have hia2 := q2.iadr (i := c) ⟨by omega, by omega⟩
    rw [Int.toNat_natCast] at hia2
    have hld := fun h' => ld_ints (h := h') q3
    have hfin := fun (hy : (L.getD q []).getD c 0 ≠ 0) => fnd_eq (L := L) (c := c) (m := L.length - a) (a := a) (k := q) (by omega) (by omega) hz fun _ => hy
    have hstep := fun (hy : (L.getD q []).getD c 0 = 0) => (fun i h1 h2 => by
      by_cases hiq : i = q
      · rw [hiq]; exact hy
      · exact hz i h1 (by omega) : ∀ i, a ≤ i → i < q + 1 → (L.getD i []).getD c 0 = 0)
    generalize hx : (L.getD q []).getD c 0 = y at *
    generalize L.getD q [] = rq at *
    by_cases hy : y = 0
    · have u1 : IntKind.i64.wrap ((q : Int) + 1) = (q : Int) + 1 := w64 _ (by omega)
      have hjl : j < L.length - a := by omega
      simp [k12, p8, p11, hlt, hlt', q1, hia2, hld, hx, hy, u1, hjl]
      simpa using hstep hy
    · have hk := hfin hy
      rw [hk] at k
      simp [k12, p8, p11, hlt, hlt', q1, hia2, hld, hx, hy]
      exact k _ (e'.next (by simp) (by simp) (by simp) (by simp) (by simp)) (by simp [k12])
  · have hlt' : ¬ (q : Int) < L.length := by omega
    have hk := fnd_eq (L := L) (c := c) (m := L.length - a) (a := a) (k := q) (by omega) (by omega) hz fun h => by omega
    rw [hk] at k
    simp [k12, p8, hlt, hlt']
    exact k _ (e'.next (by simp) (by simp) (by simp) (by simp) (by simp)) (by simp [k12])
end
end Go.AM.Ytmihmgnjnedfcab
end

section
/- Contracts of functions: the reference's Eliminate, Canon, Check, Canonical, Same, Few. -/
set_option maxRecDepth 100000
set_option linter.unusedSimpArgs false
set_option linter.unusedVariables false
namespace Go.AM.Ytmihmgnjnedfcab
open Go Go.AM
attribute [local simp ↓] awp_seq awp_reg awp_skip awp_cond' awp_block awp_exit awp_ret awp_fz thenW_normal thenW_exit thenW_ret inBlk_normal inBlk_exit inBlk_ret aops_cons' contA_ap aops_nil e_mv e_guard' e_pick' e_ld' e_app e_cpy e_st' e_call callW_f updO_some updO_none e_bin' e_isnil' e_fadr' e_iadr' e_iarr' e_len' e_build' e_mkf' e_nc' e_not' e_neg' e_cvt' e_slc' e_fld' e_ext' e_min' e_eqs' e_new e_box e_mkl e_mks
attribute [local simp] upd_apply ev_t ev_k ev_f binA_add binA_sub binA_mul binA_quo binA_rem binA_eql binA_neq binA_lss binA_leq binA_gtr binA_geq det mem frame0 keeps_nil iadrA_sl fadrA_ref fadrA_fp ldv_agg ldv_one cells_base hset_same hset_hset lenA_fs lenA_sl lenA_nils zeros_ints ints_length one_base one_nilp one_nils one_ref one_sl one_fp one_fs one_fn gl_one resA resOf bound natOf afill splice AV.cells cells_agg bindR_some condR_true condR_false guardR_tup guardR_true guardR_true' guardR_false guardR_false' allocW_some pickA_true pickA_false
open Go.FM

theorem s_Copy0 {v : AV} (hv : ML v []) : Pure prog n_ref09_Copy [v] .nils := by
  refine pure_of cf_ref09_Copy rfl fun h => ?_
  simp
  refine awp_for 0 (fun k fr' h' => h' = h ∧ fr' 3 = .nils ∧ fr' 4 = I 0) ⟨rfl, by simp, by simp⟩ ?_
  intro k fr' h' hkn hk ⟨hh, k3, k4⟩
  have k0 := hk 0 (by decide)
  simp at k0
  subst hh
  have hl := hv.len
  simp at hl
  simp [k0, k3, k4, hl]
  exact RetP.same

theorem rl_stop {D : Ds} {L : List (List Int)} {c cols : Nat} (h : L.length ≤ (elim D L c).pv.length) (hc : c ≤ cols) : elim D L cols = elim D L c := by
  have := elim_stop h (cols - c)
  rwa [show c + (cols - c) = cols by omega] at this

set_option maxHeartbeats 1000000 in
theorem s_refEliminate {D : Ds} (r : Fd D) {mv : AV} (hmv : IL mv D.mo) {v : AV} {L : List (List Int)} (hv : ML v L) {W cols : Nat} (hM : Mat D W L) (hL : L.length ≤ 65536) (hW : W ≤ 4294967296) (hc : cols ≤ W) :
    Pure prog n_ref09_Eliminate [.agg [I D.p, I D.m, mv], v, I cols] (.tup [gml (elim D L cols).L, gil (up (elim D L cols).pv)]) := by
  refine pure_of cf_ref09_Eliminate rfl fun h => ?_
  have hone := hmv.one
  unfold c_ref09_Eliminate_0 c_ref09_Eliminate_1 c_ref09_Eliminate_2 c_ref09_Eliminate_3 c_ref09_Eliminate_4
  generalize hC : c_ref09_Eliminate_5 = C5
  simp [hone]
  intro b3 hb3
  by_cases h0 : L.length = 0
  · have : L = [] := List.eq_nil_of_length_eq_zero h0
    subst this
    have hst : elim D [] cols = ⟨[], [], 1⟩ := rl_stop (D := D) (L := []) (c := 0) (cols := cols) (by simp [elim]) (by omega)
    rw [hst]
    refine (s_Copy0 hv).call ?_
    simp
    have hkg : Kp h (hset h b3 [I D.p, I D.m, mv]) := (Kp.refl h).new hb3 _
    generalize hset h b3 [I D.p, I D.m, mv] = g at *
    refine awp_for 0 (fun k fr' h' => h' = g ∧ fr' 8 = .nils ∧ fr' 9 = .nils ∧ fr' 10 = I 0 ∧ fr' 11 = I 0) ⟨rfl, by simp, by simp, by simp, by simp⟩ ?_
    intro k fr' h' hkn hk ⟨hh, k8, k9, k10, k11⟩
    have k2 := hk 2 (by decide)
    simp at k2
    subst hh
    clear hk
    unfold c_ref09_EliminateL0_0
    generalize hD : c_ref09_EliminateL0_1 = D1
    by_cases hcc : (0 : Int) < cols
    · have hcc' : 0 < cols := by omega
      simp [k2, k8, k9, k10, k11, hcc']
      subst hC
      simp [k8, k9]
      exact ⟨_, hkg.sub, .id _, rfl⟩
    · have hcc' : ¬ 0 < cols := by omega
      have hcc2 : cols = 0 := by omega
      simp [k2, k8, k9, k10, k11, hcc']
      subst hC
      simp [k8, k9]
      exact ⟨_, hkg.sub, .id _, rfl⟩
  have h0' : 0 < L.length := by omega
  refine call0 (w_Copy hv h0' hL (fun row hr => by rw [(hM row hr).1]; exact hW) _) fun v1 h1 ⟨o, hv1, ho, hh1⟩ => ?_
  subst hv1 hh1
  have hkg : Kp h (hset h b3 [I D.p, I D.m, mv]) := (Kp.refl h).new hb3 _
  have hg3 : (hset h b3 [I D.p, I D.m, mv]) b3 = some [I D.p, I D.m, mv] := hset_same ..
  generalize hset h b3 [I D.p, I D.m, mv] = g at *
  simp
  refine awp_for cols (fun c fr' h' => fr' 8 = .sl o 0 L.length 1 ∧ fr' 10 = I (elim D L c).pv.length ∧ fr' 11 = I c ∧ Own 1 (hset g o (fL (elim D L c).L)) h' (fr' 9) (elim D L c).pv.length (ints (up (elim D L c).pv)))
    ⟨by simp, by simp [elim], by simp, by simpa [elim, ints, fL] using Own.nils 1 (hset g o (fL L))⟩ ?_
  intro c fr' h' hcn hk ⟨k8, k10, k11, own⟩
  have k2 := hk 2 (by decide)
  have k3 := hk 3 (by decide)
  simp at k2 k3
  clear hk
  have hsp := hM.elim r.toOk c
  have hln := elim_len D L c
  -- the end
  have fin : elim D L cols = elim D L c → awp prog C5 (fun e fr' h' => (e = .normal ∨ e = .ret) ∧ ∃ v, resA fr' h' [.t 6, .t 7] = some v ∧ RetP h (.tup [gml (elim D L cols).L, gil (up (elim D L cols).pv)]) v h') fr' h' := by
    intro he
    rw [he]
    subst hC
    simp [k8]
    have kh : Kp h (hset g o (fL (elim D L c).L)) := hkg.new ho _
    have hfz := own.frz kh
    have hof : Frz h' h (.sl o 0 L.length 1) (gml (elim D L c).L) := by
      unfold gml gl
      rw [hln, if_neg h0]
      exact Frz.slk (own.rd (hset_same ..)) (hkg.no ho) (by rw [List.length_map, hln]; omega)
    refine RetP.tup hfz.1 rfl (frz2 hof ?_)
    rw [gil, show (up (elim D L c).pv).length = (elim D L c).pv.length by simp [up]]
    exact hfz.2
  unfold c_ref09_EliminateL0_0
  generalize hD : c_ref09_EliminateL0_1 = D1
  by_cases hlt : c < cols
  case neg =>
    have : c = cols := by omega
    subst this
    have := fin rfl
    simp [k2, k11]
    refine awp_gen [8, 9] fun fr2 hs => ?_
    have hs8 := hs 8 (by simp)
    have hs9 := hs 9 (by simp)
    simp at hs8 hs9
    subst hC
    simp [hs8, hs9, k8] at this ⊢
    exact this
  by_cases hpl : (elim D L c).pv.length < L.length
  case neg =>
    have hpl' : ¬ ((elim D L c).pv.length : Int) < L.length := by omega
    have := fin (rl_stop (by omega) (by omega))
    simp [k2, k8, k10, k11, hlt, hpl, hpl']
    subst hC
    simp [k8] at this ⊢
    exact this
  have hpl' : ((elim D L c).pv.length : Int) < L.length := by omega
  have u1 : IntKind.i64.wrap ((c : Int) + 1) = c + 1 := w64 _ (by omega)
  have hstep : elim D L (c + 1) = est D c (elim D L c) := rfl
  simp [k2, k8, k10, k11, hlt, hpl, hpl']
  subst hD
  unfold c_ref09_EliminateL0_1 c_ref09_EliminateB1_0
  generalize hD : c_ref09_EliminateL0_2 = D2
  generalize hB : c_ref09_EliminateB1_1 = B1
  simp [k10]
  subst hB
  clear fin
  rw [hstep]
  generalize elim D L c = s at *
  obtain ⟨M, pv, det⟩ := s
  simp only at *
  have hest : est D c ⟨M, pv, det⟩ = (if pv.length < M.length ∧ fnd M c (M.length - pv.length) pv.length < M.length then
    ⟨clrL D (pvt D (swL M pv.length (fnd M c (M.length - pv.length) pv.length)) pv.length c) c pv.length M.length, pv ++ [c],
      D.mul (if fnd M c (M.length - pv.length) pv.length ≠ pv.length then D.neg det else det) (((swL M pv.length (fnd M c (M.length - pv.length) pv.length)).getD pv.length []).getD c 0)⟩
  else ⟨M, pv, det⟩) := rfl
  obtain ⟨q1, q2, q3, q4⟩ := fnd_spec (L := M) (c := c) (M.length - pv.length) pv.length
  rw [hest]
  clear hest hstep
  have eg : ∀ fr2 : Fr, fr2 3 = .ref b3 0 → fr2 8 = .sl o 0 L.length 1 → fr2 9 = fr' 9 → fr2 10 = I pv.length → fr2 11 = I c → EG D mv o c pv.length b3 (fr' 9) pv.length (ints (up pv)) g fr2 h' M :=
    fun fr2 z3 z8 z9 z10 z11 => ⟨z3, by rw [hln]; exact z8, z9, z10, z11, hg3, ho, own, by omega, by omega, W, hW, by omega, hsp⟩
  refine rl_b1 r (eg _ (by simp [k3]) (by simp [k8]) (by simp) (by simp [k10]) (by simp [k11])) (by simp) ?_
  intro fr2 e2 f12
  generalize hkk : fnd M c (M.length - pv.length) pv.length = kk at *
  unfold c_ref09_EliminateB1_2
  generalize hB : c_ref09_EliminateB1_3 = B3
  have p8 := e2.f8
  have p9 := e2.f9
  have p10 := e2.f10
  have p11 := e2.f11
  by_cases hkn : kk < M.length
  case neg =>
    have hkM : kk = M.length := by omega
    rw [if_neg (by omega)]
    simp [f12, p8, hkM]
    subst hD
    simp [p8, p9, p10, p11, u1, hlt, hln]
    exact e2.own
  have hkn' : ¬ (kk : Int) = M.length := by omega
  have hkn2 : ¬ kk = M.length := by omega
  rw [if_pos ⟨by omega, hkn⟩]
  simp [f12, p8, hkn', hkn2]
  subst hB
  have hpiv : ((swL M pv.length kk).getD pv.length []).getD c 0 ≠ 0 := by
    rw [swL_get (by omega) hkn]
    by_cases hek : pv.length = kk
    · rw [if_pos hek, hek]; exact q4 (by omega)
    · rw [if_neg hek, if_pos rfl]; exact q4 (by omega)
  refine rl_b3 r (e2.next (by simp) (by simp) (by simp) (by simp) (by simp)) (by simp [f12]) hkn ?_
  intro fr3 h3 e3
  refine rl_b4 r hmv e3 hpiv ?_
  intro fr4 h4 e4
  refine rl_b5 r hmv e4 ?_
  intro fr5 h5 e5
  rw [pvt_len, swL_len] at e5
  have z8 := e5.f8
  have z9 := e5.f9
  have z10 := e5.f10
  have z11 := e5.f11
  rw [clrL_len, pvt_len, swL_len, hln] at z8
  have ow5 := e5.own
  generalize clrL D (pvt D (swL M pv.length kk) pv.length c) c pv.length M.length = M5 at *
  unfold c_ref09_EliminateB1_6 c_ref09_EliminateB1_7
  have u2 : IntKind.i64.wrap ((pv.length : Int) + 1) = pv.length + 1 := w64 _ (by omega)
  have eup : ints (up (pv ++ [c])) = ints (up pv) ++ [I c] := by rw [up, List.map_append, ints_append]; rfl
  simp [z9, z11]
  intro b hb
  refine ow5.app1 (m := 1) hb rfl (by omega) fun v' h6 own6 => ?_
  simp [z10, u2]
  subst hD
  simp [z8, z11, u1, hlt]
  have e9 : ints (List.map Int.ofNat pv ++ [(c : Int)]) = ints (up pv) ++ [I c] := by rw [ints_append]; rfl
  rw [e9]
  exact own6

/-- The rows that the reference's Canon returns. -/
noncomputable def cnV (D : Ds) (L : List (List Int)) (cols : Nat) : AV := if L.length = 0 then .nils else .fs (rkN D L cols) ((canL D L cols).map frow)
theorem cnV_ML {D : Ds} (r : Fd D) {w : Nat} {L : List (List Int)} (hM : Mat D w L) (cols : Nat) : ML (cnV D L cols) (canL D L cols) := by
  unfold cnV
  have h1 := elim_le r hM cols
  have h2 := canL_len r hM cols
  split
  · rename_i h
    have : canL D L cols = [] := List.eq_nil_of_length_eq_zero (by omega)
    rw [this]
    exact ⟨[], ⟨rfl, .inl ⟨rfl, rfl⟩⟩, fun i hi => absurd hi (by simp)⟩
  · rw [← h2]; exact ML_fs _
theorem cnV_one (D : Ds) (L : List (List Int)) (cols : Nat) : one (cnV D L cols) = true := by unfold cnV; split <;> rfl
theorem cnV_cells (D : Ds) (L : List (List Int)) (cols : Nat) : (cnV D L cols).cells = [cnV D L cols] := by unfold cnV; split <;> rfl

theorem s_refCanon {D : Ds} (r : Fd D) {mv : AV} (hmv : IL mv D.mo) {v : AV} {L : List (List Int)} (hv : ML v L) {W cols : Nat} (hM : Mat D W L) (hL : L.length ≤ 65536) (hW : W ≤ 4294967296) (hc : cols ≤ W) :
    Pure prog n_ref09_Canon [.agg [I D.p, I D.m, mv], v, I cols] (.tup [cnV D L cols, gil (pivL D L cols)]) := by
  refine pure_of cf_ref09_Canon rfl fun h => ?_
  have hone := hmv.one
  have hle := elim_le r hM cols
  have hpv := pivL_len D L cols
  have hpo := (gil_IL (pivL D L cols)).len
  rw [hpv] at hpo
  have hel := s_refEliminate r hmv hv hM hL hW hc
  have hp : up (elim D L cols).pv = pivL D L cols := rfl
  rw [hp] at hel
  have hln := elim_len D L cols
  have hsl : slcA (gml (elim D L cols).L) 0 (rkN D L cols) none 1 = some (cnV D L cols) := by
    unfold cnV gml gl
    rw [hln]
    split
    · rename_i h0
      unfold slcA
      rw [if_pos ⟨rfl, by omega, .inl rfl⟩]
    · unfold slcA
      simp only
      rw [if_pos ⟨by omega, by omega, by simp⟩]
      simp [canL, rkN, List.map_take]
  have hlen : lenA (gml (elim D L cols).L) = some L.length := by
    unfold gml gl
    rw [hln]
    split
    · rename_i h0; rw [h0]; rfl
    · rfl
  generalize gml (elim D L cols).L = lv at *
  generalize cnV D L cols = cv at *
  generalize gil (pivL D L cols) = pv at *
  generalize rkN D L cols = rk at *
  simp [hone]
  intro b3 hb3
  obtain ⟨_, _, _, l3⟩ := ld3_at (hset_same h b3 [I D.p, I D.m, mv])
  have hkg : Kp h (hset h b3 [I D.p, I D.m, mv]) := (Kp.refl h).new hb3 _
  generalize hset h b3 [I D.p, I D.m, mv] = g at *
  simp [l3]
  refine hel.call ?_
  simp [hpo, hlen, hsl]
  exact ⟨_, hkg.sub, .id _, rfl⟩

set_option maxHeartbeats 1000000 in
theorem s_ref09Check {p m : Int} {mv v : AV} {mo : List Int} (hmv : IL mv mo) (hml : mo.length < 4611686018427387904) {c : Int} {L : List (List Int)} (hv : ML v L) (hs : MSm L) :
    Pure prog n_ref09_Check [.agg [I p, I m, mv], .agg [I c, v]] (I (openE p m mo [(c, L)])) := by
  classical
  refine pure_of cf_ref09_Check rfl fun h => ?_
  have hone := hmv.one
  have hone2 := hv.one
  simp [hone, hone2]
  intro b2 hb2 b3 hb3
  have g2 : (hset (hset h b2 [I p, I m, mv]) b3 [I c, v]) b2 = some [I p, I m, mv] := (Kp.refl _).new hb3 _ b2 _ (hset_same ..)
  have g3 : (hset (hset h b2 [I p, I m, mv]) b3 [I c, v]) b3 = some [I c, v] := hset_same ..
  have hkg : Kp h (hset (hset h b2 [I p, I m, mv]) b3 [I c, v]) := ((Kp.refl h).new hb2 _).new hb3 _
  generalize hset (hset h b2 [I p, I m, mv]) b3 [I c, v] = g at *
  obtain ⟨_, _, _, l2⟩ := ld3_at g2
  have lf := lq_fst g3
  have ls := lq_snd g3
  have fin : ∀ e, openE p m mo [(c, L)] = e → RetP h (I (openE p m mo [(c, L)])) (I e) g := fun e he => he ▸ ⟨_, hkg.sub, .id _, rfl⟩
  simp [l2]
  refine (s_refCheck p m hmv hml).call ?_
  by_cases hf : FieldP p m mo
  case neg =>
    have he : fieldE p m mo = 1 := by unfold fieldE; rw [if_neg hf]
    rw [he]
    simp
    exact fin 1 (by unfold openE; rw [if_neg hf])
  have he : fieldE p m mo = 0 := by unfold fieldE; rw [if_pos hf]
  rw [he]
  have r := hf.fd
  have E0 : openE p m mo [(c, L)] = chkE (mkD p m mo) c L := by
    unfold openE; rw [if_pos hf]; simp only [chkAll]
    split
    · rfl
    · rename_i hh; exact (Classical.byContradiction hh).symm
  rw [E0] at fin ⊢
  have hdp := hf.1.dp
  have hdm := hf.1.dm
  generalize mkD p m mo = D at *
  subst hdp hdm
  by_cases c1 : c < 0
  · simp [lf, c1]
    exact fin 3 (by unfold chkE; rw [if_pos (.inl c1)])
  by_cases c2 : 256 < c
  · simp [lf, c1, c2]
    exact fin 3 (by unfold chkE; rw [if_pos (.inr (.inl c2))])
  by_cases c3 : 256 < (L.length : Int)
  · simp [lf, ls, c1, c2, hv.len, c3]
    exact fin 3 (by unfold chkE; rw [if_pos (.inr (.inr c3))])
  have E1 : chkE D c L = if ¬ (∀ row ∈ L, (row.length : Int) = c) then 3 else if ∀ row ∈ L, ∀ x ∈ row, D.R x then 0 else 2 := by unfold chkE; rw [if_neg (by omega)]
  simp [lf, ls, c1, c2, hv.len, c3]
  refine awp_for L.length (fun k fr' h' => h' = g ∧ fr' 6 = I k ∧ ∀ row ∈ L.take k, (row.length : Int) = c) ⟨rfl, by simp, by simp⟩ ?_
  intro k fr' h' hkn hk ⟨hh, k6, hx⟩
  subst hh
  have k2 := hk 2 (by decide)
  have k3 := hk 3 (by decide)
  simp at k2 k3
  clear hk
  by_cases hlt : k < L.length
  · obtain ⟨pa, row, hpa, hpl, hrow⟩ := hv.rd hlt
    have hm := mem_getD (d := []) hlt
    rw [take_getD (d := []) hlt]
    generalize L.getD k [] = rl at *
    have u1 : IntKind.i64.wrap ((k : Int) + 1) = k + 1 := w64 _ (by omega)
    by_cases hc : (rl.length : Int) = c
    · simp [k3, k6, hlt, ls, lf, hv.len, hpa, hpl, hrow.len, hc, u1]
      intro x hxx
      rcases hxx with hxx | rfl
      · exact hx x hxx
      · exact hc
    · simp [k3, k6, hlt, ls, lf, hv.len, hpa, hpl, hrow.len, hc]
      exact fin 3 (by rw [E1, if_pos fun hall => hc (hall rl hm)])
  have : k = L.length := by omega
  subst this
  rw [List.take_length] at hx
  have E2 : chkE D c L = if ∀ row ∈ L, ∀ x ∈ row, D.R x then 0 else 2 := by rw [E1, if_neg (by simpa using hx)]
  simp [k3, k6, ls, hv.len]
  refine awp_for L.length (fun k fr2 h2 => h2 = h' ∧ fr2 7 = I k ∧ ∀ row ∈ L.take k, ∀ x ∈ row, D.R x) ⟨rfl, by simp, by simp⟩ ?_
  intro k fr2 h2 hkn hk2 ⟨hh, k7, hx2⟩
  subst hh
  have m2 := hk2 2 (by decide)
  have m3 := hk2 3 (by decide)
  simp [k2, k3] at m2 m3
  clear hk2
  by_cases hlt : k < L.length
  · obtain ⟨pa, row, hpa, hpl, hrow⟩ := hv.rd hlt
    have hm := mem_getD (d := []) hlt
    rw [take_getD (d := []) hlt]
    generalize L.getD k [] = rl at *
    obtain ⟨e, he1, he2, hen⟩ := s_Entries r.toRg hone hrow (hs.2 rl hm)
    have u1 : IntKind.i64.wrap ((k : Int) + 1) = k + 1 := w64 _ (by omega)
    simp [m2, m3, k7, hlt, ls, l2, hv.len, hpa, hpl]
    refine hen.call ?_
    by_cases hc : ∀ x ∈ rl, D.R x
    · have he : e = 0 := he2.2 hc
      rw [he]
      simp [k7, u1, hlt]
      intro x hxx
      rcases hxx with hxx | rfl
      · exact hx2 x hxx
      · exact hc
    · have he : e = 2 := by rcases he1 with he1 | he1; exact absurd (he2.1 he1) hc; exact he1
      rw [he]
      simp
      exact fin 2 (by rw [E2, if_neg fun hall => hc (hall rl hm)])
  · have : k = L.length := by omega
    subst this
    rw [List.take_length] at hx2
    simp [m3, k7, ls, hv.len]
    exact fin 0 (by rw [E2, if_pos hx2])

/-- The answer of the reference's Canonical. -/
noncomputable def rcanR (p m : Int) (mo : List Int) (c : Int) (L : List (List Int)) : AV :=
  if openE p m mo [(c, L)] = 0 then .tup [.agg [I c, cnV (mkD p m mo) L c.toNat], gil (pivL (mkD p m mo) L c.toNat), I 0] else .tup [.agg [I 0, .nils], .nils, I (openE p m mo [(c, L)])]

theorem s_refCanonical {p m : Int} {mv v : AV} {mo : List Int} (hmv : IL mv mo) (hml : mo.length < 4611686018427387904) {c : Int} {L : List (List Int)} (hv : ML v L) (hs : MSm L) :
    Pure prog n_ref09_Canonical [.agg [I p, I m, mv], .agg [I c, v]] (rcanR p m mo c L) := by
  refine pure_of cf_ref09_Canonical rfl fun h => ?_
  have hone := hmv.one
  have hone2 := hv.one
  unfold c_ref09_Canonical_0 c_ref09_Canonical_1
  generalize hC : c_ref09_Canonical_2 = C2
  simp [hone, hone2]
  intro b2 hb2 b3 hb3 b4 hb4
  have g2 : (hset (hset (hset h b2 [I p, I m, mv]) b3 [I c, v]) b4 [I 0, .nils]) b2 = some [I p, I m, mv] := ((Kp.refl _).new hb3 _).new hb4 _ b2 _ (hset_same ..)
  have g3 : (hset (hset (hset h b2 [I p, I m, mv]) b3 [I c, v]) b4 [I 0, .nils]) b3 = some [I c, v] := (Kp.refl _).new hb4 _ b3 _ (hset_same ..)
  have g4 : (hset (hset (hset h b2 [I p, I m, mv]) b3 [I c, v]) b4 [I 0, .nils]) b4 = some [I 0, .nils] := hset_same ..
  have hk : Kp h (hset (hset (hset h b2 [I p, I m, mv]) b3 [I c, v]) b4 [I 0, .nils]) := (((Kp.refl h).new hb2 _).new hb3 _).new hb4 _
  have n4 : h b4 = none := (((Kp.refl h).new hb2 [I p, I m, mv]).new hb3 [I c, v]).no hb4
  generalize hset (hset (hset h b2 [I p, I m, mv]) b3 [I c, v]) b4 [I 0, .nils] = G at *
  obtain ⟨_, _, _, l2⟩ := ld3_at g2
  have l3 := lq_both g3
  simp [l2, l3]
  refine (s_ref09Check hmv hml hv hs).call ?_
  have l30 := lq_fst g3
  have l31 := lq_snd g3
  unfold rcanR
  by_cases he : openE p m mo [(c, L)] = 0
  · rw [if_pos he]
    obtain ⟨hf, n, rfl, hn, hLn, hM⟩ := openE_one he
    have r := hf.fd
    have hmv2 : IL mv (mkD p m mo).mo := hmv
    have hcan := s_refCanon r hmv2 hv hM (by omega) (by omega) (Nat.le_refl _)
    rw [hf.1.dp, hf.1.dm] at hcan
    rw [Int.toNat_natCast, he]
    have hro := cnV_one (mkD p m mo) L n
    have hrc := cnV_cells (mkD p m mo) L n
    generalize gil (pivL (mkD p m mo) L n) = pv at *
    unfold cnV at *
    subst hC
    by_cases hL0 : L.length = 0
    · rw [if_pos hL0] at *
      have st := fun R => sr_all (R := R) (cs' := [I n, .nils]) g4 (n := 2) rfl rfl rfl
      have l4 := lq_both (hset_same G b4 [I n, .nils])
      simp [l2, l30, l31]
      refine hcan.call ?_
      simp [l30, st, l4]
      exact ⟨_, (hk.set n4 _).sub, .id _, rfl⟩
    · rw [if_neg hL0] at *
      generalize rkN (mkD p m mo) L n = rk at *
      generalize (canL (mkD p m mo) L n).map frow = cl at *
      have st := fun R => sr_all (R := R) (cs' := [I n, .fs rk cl]) g4 (n := 2) rfl rfl rfl
      have l4 := lq_both (hset_same G b4 [I n, .fs rk cl])
      simp [l2, l30, l31]
      refine hcan.call ?_
      simp [l30, st, l4]
      exact ⟨_, (hk.set n4 _).sub, .id _, rfl⟩
  · rw [if_neg he]
    generalize openE p m mo [(c, L)] = e at *
    subst hC
    have st0 := fun R => sr_all (R := R) (cs' := [I 0, .nils]) g4 (n := 2) rfl rfl rfl
    rw [hset_id g4] at st0
    have l4 := lq_both g4
    simp [he, st0, l4]
    exact ⟨_, hk.sub, .id _, rfl⟩

/-- Equal matrices. -/
theorem s_Same {v w : AV} {a b : List (List Int)} {c d : Int} (hv : ML v a) (hw : ML w b) (hal : a.length < 4611686018427387904) (har : ∀ i, i < a.length → (a.getD i []).length < 4611686018427387904) :
    Pure prog n_ref09_Same [.agg [I c, v], .agg [I d, w]] (B (decide (c = d ∧ a = b))) := by
  refine pure_of cf_ref09_Same rfl fun h => ?_
  have hone := hv.one
  have hone2 := hw.one
  simp [hone, hone2]
  intro b2 hb2 b3 hb3
  have g2 : (hset (hset h b2 [I c, v]) b3 [I d, w]) b2 = some [I c, v] := (Kp.refl _).new hb3 _ b2 _ (hset_same ..)
  have g3 : (hset (hset h b2 [I c, v]) b3 [I d, w]) b3 = some [I d, w] := hset_same ..
  have hk : Kp h (hset (hset h b2 [I c, v]) b3 [I d, w]) := ((Kp.refl h).new hb2 _).new hb3 _
  generalize hset (hset h b2 [I c, v]) b3 [I d, w] = g at *
  have l20 := lq_fst g2
  have l21 := lq_snd g2
  have l30 := lq_fst g3
  have l31 := lq_snd g3
  by_cases hcd : c = d
  · simp [l20, l21, l30, l31, hcd]
    refine (s_SameRows hv hw hal har).call ?_
    simp
    exact ⟨_, hk.sub, .id _, rfl⟩
  · simp [l20, l30, hcd]
    exact ⟨_, hk.sub, .id _, rfl⟩
end Go.AM.Ytmihmgnjnedfcab
end

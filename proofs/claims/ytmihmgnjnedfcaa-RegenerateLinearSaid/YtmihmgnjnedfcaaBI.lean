import Derived.Test.YtmihmgnjnedfcaaBF
import Derived.Test.YtmihmgnjnedfcaaBC
import Derived.Test.YtmihmgnjnedfcaaBB
import Derived.Test.YtmihmgnjnedfcaaBD

section
/- Elimination on lists of numbers, and what it is as linear algebra over the field of the residues. No code is walked here. -/
set_option maxRecDepth 100000
set_option linter.unusedSimpArgs false
set_option linter.unusedVariables false
namespace Go.AM.Ytmihmgnjnedfcaa
open Go Go.AM Go.FM Go.LA

/-- A field's description. -/
structure FB where
  D : Ds
  r : Fd D
def El (F : FB) : Type := {x : Int // F.D.R x}
noncomputable instance elF (F : FB) : Fld (El F) := ⟨{
  add := fun a b => ⟨F.D.add a.1 b.1, F.r.toOk.addR _ _⟩,
  mul := fun a b => ⟨F.D.mul a.1 b.1, F.r.toOk.mulR _ _⟩,
  neg := fun a => ⟨F.D.neg a.1, F.r.toOk.negR _⟩,
  zero := ⟨0, F.r.toOk.q0⟩,
  one := ⟨1, F.r.toOk.q1⟩,
  inv := fun a => ⟨invD F.D a.1, invR F.r.toOk _⟩,
  add_comm := fun a b => Subtype.ext (F.r.toOk.add_comm _ _),
  add_assoc := fun a b c => Subtype.ext (F.r.toOk.add_assoc _ _ _),
  add_zero := fun a => Subtype.ext ((F.r.toOk.add_zero _).trans (Ds.inn_of a.2)),
  add_neg := fun a => Subtype.ext (F.r.toOk.add_neg _),
  mul_comm := fun a b => Subtype.ext (F.r.toOk.mul_comm _ _),
  mul_assoc := fun a b c => Subtype.ext (F.r.toOk.mul_assoc _ _ _),
  mul_one := fun a => Subtype.ext ((F.r.toOk.mul_one _).trans (Ds.inn_of a.2)),
  mul_add := fun a b c => Subtype.ext (F.r.toOk.mul_add _ _ _),
  mul_inv := fun a h => Subtype.ext (Ytmihmgnjnedfcaa.mul_inv F.r (by rw [Ds.inn_of a.2]; exact fun h0 => h (Subtype.ext h0))),
  one_ne := fun h => absurd (congrArg Subtype.val h) (show ¬ (1 : Int) = 0 by decide) }⟩

section
variable {F : FB}
def toK (F : FB) (x : Int) : El F := ⟨F.D.inn x, F.r.toOk.innR x⟩
theorem toK_add (x y : Int) : toK F (F.D.add x y) = toK F x + toK F y := Subtype.ext (by
  show F.D.inn (F.D.add x y) = F.D.add (F.D.inn x) (F.D.inn y)
  rw [F.r.toOk.inn_add, F.r.toOk.add_inn, F.r.toOk.inn_add'])
theorem toK_mul (x y : Int) : toK F (F.D.mul x y) = toK F x * toK F y := Subtype.ext (by
  show F.D.inn (F.D.mul x y) = F.D.mul (F.D.inn x) (F.D.inn y)
  rw [F.r.toOk.inn_mul, F.r.toOk.mul_inn, F.r.toOk.inn_mul'])
theorem toK_neg (x : Int) : toK F (F.D.neg x) = -toK F x := Subtype.ext (by
  show F.D.inn (F.D.neg x) = F.D.neg (F.D.inn x)
  rw [F.r.toOk.inn_neg]; unfold Ds.neg; rw [F.r.toOk.inn_inn])
theorem toK_zero : toK F 0 = 0 := Subtype.ext (Ds.inn_of F.r.toOk.q0)
theorem toK_one : toK F 1 = 1 := Subtype.ext (Ds.inn_of F.r.toOk.q1)
theorem toK_inv (x : Int) : toK F (invD F.D x) = Fld.inv (toK F x) := Subtype.ext (by
  show F.D.inn (invD F.D x) = invD F.D (F.D.inn x)
  rw [Ds.inn_of (invR F.r.toOk _)]; unfold invD; rw [F.r.toOk.inn_inn])
theorem toK_inj {x y : Int} (hx : F.D.R x) (hy : F.D.R y) (h : toK F x = toK F y) : x = y := by
  have : F.D.inn x = F.D.inn y := congrArg Subtype.val h
  rwa [Ds.inn_of hx, Ds.inn_of hy] at this
theorem toK_ne {x : Int} (hx : F.D.R x) (h : x ≠ 0) : toK F x ≠ 0 := fun h2 => h (toK_inj hx F.r.toOk.q0 (h2.trans toK_zero.symm))
theorem toK_val (a : El F) : toK F a.1 = a := Subtype.ext (Ds.inn_of a.2)

/-- A list of numbers, of rows, over the field. -/
def vc (F : FB) (l : List Int) : Nat → El F := fun j => toK F (l.getD j 0)
def mtx (F : FB) (L : List (List Int)) : Mt (El F) := fun i => vc F (L.getD i [])
end

/-- The rows are vectors of w elements. -/
def Mat (D : Ds) (w : Nat) (L : List (List Int)) : Prop := ∀ row ∈ L, row.length = w ∧ ∀ x ∈ row, D.R x

theorem getD_set {α : Type} {L : List α} {i j : Nat} {l d : α} : (L.set i l).getD j d = if j = i ∧ i < L.length then l else L.getD j d := by
  simp only [List.getD, List.getElem?_set]
  by_cases h : i = j
  · subst h
    by_cases h2 : i < L.length
    · rw [if_pos rfl, if_pos h2, if_pos ⟨rfl, h2⟩]; rfl
    · rw [if_pos rfl, if_neg h2, if_neg (by omega), List.getElem?_eq_none (by omega)]
  · rw [if_neg h, if_neg (by omega)]
theorem getD_out {α : Type} {L : List α} {i : Nat} {d : α} (h : L.length ≤ i) : L.getD i d = d := by
  simp only [List.getD, List.getElem?_eq_none h, Option.getD_none]

section
variable {D : Ds} {w : Nat} {L : List (List Int)}
theorem Mat.len (m : Mat D w L) {i : Nat} (hi : i < L.length) : (L.getD i []).length = w := (m _ (mem_getD hi)).1
theorem Mat.R (m : Mat D w L) {i : Nat} (hi : i < L.length) : ∀ x ∈ L.getD i [], D.R x := (m _ (mem_getD hi)).2
theorem Mat.get (o : D.Ok) (m : Mat D w L) (i j : Nat) : D.R ((L.getD i []).getD j 0) := by
  by_cases hi : i < L.length
  · by_cases hj : j < (L.getD i []).length
    · exact m.R hi _ (mem_getD hj)
    · rw [getD_out (by omega)]; exact o.q0
  · rw [getD_out (L := L) (by omega)]; exact o.q0
theorem Mat.set (m : Mat D w L) {i : Nat} {l : List Int} (hl : l.length = w ∧ ∀ x ∈ l, D.R x) : Mat D w (L.set i l) := fun row hr => by
  rcases List.mem_or_eq_of_mem_set hr with h | h
  · exact m row h
  · rw [h]; exact hl
end

/-! ### The steps -/

def swL (L : List (List Int)) (i k : Nat) : List (List Int) := (L.set i (L.getD k [])).set k (L.getD i [])
def scV (D : Ds) (a : Int) (l : List Int) : List Int := l.map (D.mul a)
def fnd (L : List (List Int)) (c : Nat) : Nat → Nat → Nat
  | 0, k => k
  | n + 1, k => if (L.getD k []).getD c 0 = 0 then fnd L c n (k + 1) else k
def rowC (D : Ds) (M : List (List Int)) (c at' k : Nat) : List (List Int) :=
  if k ≠ at' ∧ (M.getD k []).getD c 0 ≠ 0 then M.set k (addV D (M.getD k []) (D.neg ((M.getD k []).getD c 0)) (M.getD at' [])) else M
def clrL (D : Ds) (L : List (List Int)) (c at' : Nat) : Nat → List (List Int)
  | 0 => L
  | k + 1 => rowC D (clrL D L c at' k) c at' k
noncomputable def pvt (D : Ds) (L : List (List Int)) (at' c : Nat) : List (List Int) :=
  if (L.getD at' []).getD c 0 ≠ 1 then L.set at' (scV D (invD D ((L.getD at' []).getD c 0)) (L.getD at' [])) else L
structure ES where
  L : List (List Int)
  pv : List Nat
  det : Int
noncomputable def est (D : Ds) (c : Nat) (s : ES) : ES :=
  if s.pv.length < s.L.length ∧ fnd s.L c (s.L.length - s.pv.length) s.pv.length < s.L.length then
    ⟨clrL D (pvt D (swL s.L s.pv.length (fnd s.L c (s.L.length - s.pv.length) s.pv.length)) s.pv.length c) c s.pv.length s.L.length, s.pv ++ [c],
      D.mul (if fnd s.L c (s.L.length - s.pv.length) s.pv.length ≠ s.pv.length then D.neg s.det else s.det) (((swL s.L s.pv.length (fnd s.L c (s.L.length - s.pv.length) s.pv.length)).getD s.pv.length []).getD c 0)⟩
  else s
noncomputable def elim (D : Ds) (L : List (List Int)) : Nat → ES
  | 0 => ⟨L, [], 1⟩
  | c + 1 => est D c (elim D L c)

theorem swL_len (L : List (List Int)) (i k : Nat) : (swL L i k).length = L.length := by simp [swL]
theorem swL_get {L : List (List Int)} {i k : Nat} (hi : i < L.length) (hk : k < L.length) (a : Nat) : (swL L i k).getD a [] = if a = k then L.getD i [] else if a = i then L.getD k [] else L.getD a [] := by
  unfold swL
  rw [getD_set, List.length_set, getD_set]
  by_cases h : a = k
  · rw [if_pos ⟨h, hk⟩, if_pos h]
  · rw [if_neg (by omega), if_neg h]
    by_cases h2 : a = i
    · rw [if_pos ⟨h2, hi⟩, if_pos h2]
    · rw [if_neg (by omega), if_neg h2]
theorem set_getD_self {α : Type} {L : List α} {i : Nat} {d : α} : L.set i (L.getD i d) = L := by
  refine List.ext_getElem (by simp) fun j h1 h2 => ?_
  rw [List.getElem_set]
  split
  · rename_i h; subst h; simp [List.getD, h2]
  · rfl
theorem swL_self (L : List (List Int)) (i : Nat) : swL L i i = L := by
  unfold swL; rw [set_getD_self, set_getD_self]
theorem fnd_spec {L : List (List Int)} {c : Nat} : ∀ (n k : Nat), k ≤ fnd L c n k ∧ fnd L c n k ≤ k + n ∧ (∀ i, k ≤ i → i < fnd L c n k → (L.getD i []).getD c 0 = 0) ∧ (fnd L c n k < k + n → (L.getD (fnd L c n k) []).getD c 0 ≠ 0)
  | 0, k => by simp only [fnd]; exact ⟨by omega, by omega, fun i h1 h2 => by omega, fun h => by omega⟩
  | n + 1, k => by
    simp only [fnd]
    by_cases h : (L.getD k []).getD c 0 = 0
    · rw [if_pos h]
      obtain ⟨h1, h2, h3, h4⟩ := fnd_spec (L := L) (c := c) n (k + 1)
      refine ⟨by omega, by omega, fun i hi hl => ?_, fun hl => h4 (by omega)⟩
      by_cases e : i = k
      · rw [e]; exact h
      · exact h3 i (by omega) hl
    · rw [if_neg h]
      exact ⟨by omega, by omega, fun i h1 h2 => by omega, fun _ => h⟩
theorem rowC_len (D : Ds) (M : List (List Int)) (c at' k : Nat) : (rowC D M c at' k).length = M.length := by unfold rowC; split <;> simp
theorem clrL_len (D : Ds) (L : List (List Int)) (c at' : Nat) : ∀ k, (clrL D L c at' k).length = L.length
  | 0 => rfl
  | k + 1 => by simp only [clrL]; rw [rowC_len, clrL_len]
theorem pvt_len (D : Ds) (L : List (List Int)) (at' c : Nat) : (pvt D L at' c).length = L.length := by unfold pvt; split <;> simp
theorem est_len (D : Ds) (c : Nat) (s : ES) : (est D c s).L.length = s.L.length := by
  unfold est; split
  · simp only [clrL_len, pvt_len, swL_len]
  · rfl
theorem elim_len (D : Ds) (L : List (List Int)) : ∀ c, (elim D L c).L.length = L.length
  | 0 => rfl
  | c + 1 => by simp only [elim]; rw [est_len, elim_len]

section
variable {D : Ds} {w : Nat} {L : List (List Int)}
theorem addV_R (o : D.Ok) {v u : List Int} (hv : ∀ x ∈ v, D.R x) (a : Int) : ∀ x ∈ addV D v a u, D.R x := fun x hx => by
  unfold addV at hx
  obtain ⟨i, hi, rfl⟩ := List.mem_map.1 hx
  split
  · exact o.addR _ _
  · exact hv _ (mem_getD (List.mem_range.1 hi))
theorem scV_R (o : D.Ok) (a : Int) (l : List Int) : ∀ x ∈ scV D a l, D.R x := fun x hx => by
  obtain ⟨y, _, rfl⟩ := List.mem_map.1 hx
  exact o.mulR _ _
theorem scV_len (D : Ds) (a : Int) (l : List Int) : (scV D a l).length = l.length := by simp [scV]
theorem Mat.sw (m : Mat D w L) {i k : Nat} (hi : i < L.length) (hk : k < L.length) : Mat D w (swL L i k) := by
  unfold swL
  exact (m.set ⟨m.len hk, m.R hk⟩).set ⟨m.len hi, m.R hi⟩
theorem Mat.rowC (o : D.Ok) (m : Mat D w L) (c at' k : Nat) (hk : k < L.length) : Mat D w (rowC D L c at' k) := by
  unfold Ytmihmgnjnedfcaa.rowC; split
  · exact m.set ⟨by rw [addV_len]; exact m.len hk, addV_R o (m.R hk) _⟩
  · exact m
theorem Mat.clr (o : D.Ok) (m : Mat D w L) (c at' : Nat) : ∀ k, k ≤ L.length → Mat D w (clrL D L c at' k)
  | 0, _ => m
  | k + 1, h => by simp only [clrL]; exact (m.clr o c at' k (by omega)).rowC o c at' k (by rw [clrL_len]; omega)
theorem Mat.pvt (o : D.Ok) (m : Mat D w L) {at' : Nat} (ha : at' < L.length) (c : Nat) : Mat D w (pvt D L at' c) := by
  unfold Ytmihmgnjnedfcaa.pvt; split
  · exact m.set ⟨by rw [scV_len]; exact m.len ha, scV_R o _ _⟩
  · exact m
theorem Mat.est (o : D.Ok) {s : ES} (m : Mat D w s.L) (c : Nat) : Mat D w (est D c s).L := by
  unfold Ytmihmgnjnedfcaa.est; split
  · rename_i h
    refine Mat.clr o (Mat.pvt o (m.sw h.1 h.2) (by rw [swL_len]; exact h.1) c) _ _ _ ?_
    rw [pvt_len, swL_len]; exact Nat.le_refl _
  · exact m
theorem Mat.elim (o : D.Ok) (m : Mat D w L) : ∀ c, Mat D w (elim D L c).L
  | 0 => m
  | c + 1 => (m.elim o c).est o c
theorem est_det (o : D.Ok) {s : ES} (h : D.R s.det) (c : Nat) : D.R (est D c s).det := by
  unfold est; split
  · exact o.mulR _ _
  · exact h
theorem elim_det (o : D.Ok) (L : List (List Int)) : ∀ c, D.R (elim D L c).det
  | 0 => o.q1
  | c + 1 => est_det o (elim_det o L c) c
end

/-! ### As linear algebra -/

section
variable {F : FB} {w : Nat} {L : List (List Int)}

theorem vc_addV {v u : List Int} (h : u.length ≤ v.length) (a : Int) (j : Nat) : vc F (addV F.D v a u) j = vc F v j + toK F a * vc F u j := by
  unfold vc
  by_cases hj : j < v.length
  · rw [addV_get hj]
    split
    · rw [toK_add, toK_mul]
    · rename_i h0
      have : u.getD j 0 = 0 := Classical.byContradiction h0
      rw [this, toK_zero, LA.mul_zero, add_zero]
  · rw [getD_out (by rw [addV_len]; omega), getD_out (L := v) (by omega), getD_out (L := u) (by omega), toK_zero, LA.mul_zero, add_zero]
theorem vc_scV (a : Int) (l : List Int) (j : Nat) : vc F (scV F.D a l) j = toK F a * vc F l j := by
  unfold vc scV
  by_cases hj : j < l.length
  · rw [map_getD' (F.D.mul a) l j 0 0 hj, toK_mul]
  · rw [getD_out (by simp; omega), getD_out (L := l) (by omega), toK_zero, LA.mul_zero]
theorem mtx_set {i : Nat} {l : List Int} (hi : i < L.length) (a b : Nat) : mtx F (L.set i l) a b = if a = i then vc F l b else mtx F L a b := by
  unfold mtx
  rw [getD_set]
  by_cases h : a = i
  · rw [if_pos ⟨h, hi⟩, if_pos h]
  · rw [if_neg (by omega), if_neg h]
theorem mtx_sw {i k : Nat} (hi : i < L.length) (hk : k < L.length) (a b : Nat) : mtx F (swL L i k) a b = swp (mtx F L) i k a b := by
  unfold mtx swp swapR
  rw [swL_get hi hk]
  by_cases h : a = k
  · by_cases h2 : a = i
    · rw [if_pos h, if_pos h2, show k = i by omega]
    · rw [if_pos h, if_neg h2, if_pos h]
  · rw [if_neg h]
    by_cases h2 : a = i
    · rw [if_pos h2, if_pos h2]
    · rw [if_neg h2, if_neg h2, if_neg h]
theorem mtx_pvt (m : Mat F.D w L) {at' c : Nat} (ha : at' < L.length) (a b : Nat) : mtx F (pvt F.D L at' c) a b = piv (mtx F L) at' c a b := by
  have e : mtx F L at' c = toK F ((L.getD at' []).getD c 0) := rfl
  unfold piv scaleR pvt
  rw [e]
  split
  · rw [mtx_set ha, vc_scV, toK_inv]
    rfl
  · rename_i h
    have h1 : (L.getD at' []).getD c 0 = 1 := Classical.byContradiction h
    rw [h1, toK_one, inv_one]
    split
    · rename_i h2; rw [one_mul, h2]
    · rfl
theorem mtx_clr (m : Mat F.D w L) {at' c : Nat} (ha : at' < L.length) : ∀ k, k ≤ L.length → ∀ a b, mtx F (clrL F.D L c at' k) a b = clr (mtx F L) at' c k a b
  | 0, _, a, b => by simp only [clrL]; unfold clr; rw [if_neg (by omega)]
  | k + 1, hk, a, b => by
    have ih := mtx_clr m (c := c) ha k (by omega)
    have mm := m.clr F.r.toOk c at' k (by omega)
    have hl := clrL_len F.D L c at' k
    simp only [clrL]
    have ek : ∀ b, mtx F (clrL F.D L c at' k) k b = mtx F L k b := fun b => by rw [ih]; unfold clr; rw [if_neg (by omega)]
    have ea : ∀ b, mtx F (clrL F.D L c at' k) at' b = mtx F L at' b := fun b => by rw [ih]; unfold clr; rw [if_neg (by omega)]
    have e1 : toK F (((clrL F.D L c at' k).getD k []).getD c 0) = mtx F L k c := ek c
    generalize clrL F.D L c at' k = M at *
    unfold rowC
    by_cases h : k ≠ at' ∧ (M.getD k []).getD c 0 ≠ 0
    · rw [if_pos h, mtx_set (by omega)]
      by_cases hak : a = k
      · subst hak
        rw [if_pos rfl, vc_addV (by rw [mm.len (by omega), mm.len (by omega)]; exact Nat.le_refl _), toK_neg, e1]
        unfold clr
        rw [if_pos (by omega)]
        have e2 := ek b
        have e3 := ea b
        unfold mtx at e2 e3 ⊢
        rw [e2, e3]
      · rw [if_neg hak, ih]
        unfold clr
        by_cases h1 : a < k ∧ a ≠ at'
        · rw [if_pos h1, if_pos (by omega)]
        · rw [if_neg h1, if_neg (by omega)]
    · rw [if_neg h, ih]
      unfold clr
      by_cases hak : a = k
      · subst hak
        rw [if_neg (by omega)]
        by_cases h1 : a = at'
        · rw [if_neg (by omega)]
        · have h0 : (M.getD a []).getD c 0 = 0 := Classical.byContradiction fun hh => h ⟨h1, hh⟩
          rw [h0, toK_zero] at e1
          rw [if_pos (by omega), ← e1, neg_zero, zero_mul, add_zero]
      · by_cases h1 : a < k ∧ a ≠ at'
        · rw [if_pos h1, if_pos (by omega)]
        · rw [if_neg h1, if_neg (by omega)]

/-- What is said of a state of the elimination. -/
structure ElS (F : FB) (w c : Nat) (L : List (List Int)) (s : ES) : Prop where
  mat : Mat F.D w s.L
  len : s.L.length = L.length
  lt : ∀ x ∈ s.pv, x < c
  op : ∃ d, RE L.length (mtx F L) (mtx F s.L) d ∧ d * toK F s.det = 1
  red : Rref L.length c s.pv.length (fun i => s.pv.getD i 0) (mtx F s.L)

theorem ElS.step {c : Nat} {s : ES} (h : ElS F w c L s) : ElS F w (c + 1) L (est F.D c s) := by
  obtain ⟨h1, h2, h3, ⟨d, h4, h5⟩, h6⟩ := h
  have hm := h1.est F.r.toOk c
  have hn := est_len F.D c s
  obtain ⟨f1, f2, f3, f4⟩ := fnd_spec (L := s.L) (c := c) (s.L.length - s.pv.length) s.pv.length
  have hle := h6.le
  unfold est at hm hn ⊢
  by_cases hc : s.pv.length < s.L.length ∧ fnd s.L c (s.L.length - s.pv.length) s.pv.length < s.L.length
  · rw [if_pos hc] at hm hn ⊢
    generalize fnd s.L c (s.L.length - s.pv.length) s.pv.length = k at *
    have hx := f4 (by omega)
    have hK : mtx F s.L k c ≠ 0 := toK_ne (h1.get F.r.toOk k c) hx
    have hsw := h1.sw hc.1 hc.2
    have eS : swL s.L s.pv.length k = swL s.L s.pv.length k := rfl
    have e1 : ∀ a b, mtx F (clrL F.D (pvt F.D (swL s.L s.pv.length k) s.pv.length c) c s.pv.length s.L.length) a b = stp L.length (mtx F s.L) s.pv.length k c a b := fun a b => by
      rw [mtx_clr (hsw.pvt F.r.toOk (by rw [swL_len]; omega) c) (by rw [pvt_len, swL_len]; omega) _ (by rw [pvt_len, swL_len]; omega)]
      have e2 : mtx F (pvt F.D (swL s.L s.pv.length k) s.pv.length c) = piv (swp (mtx F s.L) s.pv.length k) s.pv.length c := by
        funext a b
        rw [mtx_pvt hsw (by rw [swL_len]; omega)]
        have : mtx F (swL s.L s.pv.length k) = swp (mtx F s.L) s.pv.length k := by
          funext a b; exact mtx_sw hc.1 hc.2 a b
        rw [this]
      rw [e2, ← h2]
      rfl
    have e2 : mtx F (clrL F.D (pvt F.D (swL s.L s.pv.length k) s.pv.length c) c s.pv.length s.L.length) = stp L.length (mtx F s.L) s.pv.length k c := by
      funext a b; exact e1 a b
    refine ⟨hm, by omega, fun x hx => ?_, ⟨(Fld.inv (mtx F s.L k c) * (if k = s.pv.length then 1 else -1)) * d, ?_, ?_⟩, ?_⟩
    · rcases List.mem_append.1 hx with hx | hx
      · have := h3 x hx; omega
      · rw [List.mem_singleton] at hx; omega
    · exact h4.trans (e2 ▸ stp_RE f1 (by omega) hK)
    · simp only
      rw [toK_mul, swL_get hc.1 hc.2]
      have ex : toK F ((if s.pv.length = k then s.L.getD s.pv.length [] else if s.pv.length = s.pv.length then s.L.getD k [] else s.L.getD s.pv.length []).getD c 0) = mtx F s.L k c := by
        by_cases hek : s.pv.length = k
        · rw [if_pos hek, hek]; rfl
        · rw [if_neg hek, if_pos rfl]; rfl
      rw [ex]
      generalize mtx F s.L k c = X at *
      have es : toK F (if k ≠ s.pv.length then F.D.neg s.det else s.det) = (if k = s.pv.length then 1 else -1) * toK F s.det := by
        by_cases hek : k = s.pv.length
        · rw [if_neg (by simpa using hek), if_pos hek, one_mul]
        · rw [if_pos hek, if_neg hek, toK_neg, neg_one_mul]
      rw [es]
      have eq : ((if k = s.pv.length then 1 else -1) * (if k = s.pv.length then 1 else -1) : El F) = 1 := by
        by_cases hek : k = s.pv.length
        · rw [if_pos hek, one_mul]
        · rw [if_neg hek, neg_one_mul, neg_neg]
      generalize (if k = s.pv.length then 1 else -1 : El F) = u at *
      rw [show Fld.inv X * u * d * (u * toK F s.det * X) = (Fld.inv X * X) * (u * u) * (d * toK F s.det) by ac_rfl, h5, eq, inv_mul hK, one_mul, one_mul]
    · simp only
      rw [List.length_append, List.length_singleton, e2]
      refine h6.step f1 (by omega) hK (fun i hi => ?_) ?_
      · simp only [List.getD, List.getElem?_append_left hi]
      · simp [List.getD]
  · rw [if_neg hc] at hm hn ⊢
    refine ⟨hm, by omega, fun x hx => by have := h3 x hx; omega, ⟨d, h4, h5⟩, h6.skip fun i hi hin => ?_⟩
    show toK F ((s.L.getD i []).getD c 0) = 0
    have hk : ¬ fnd s.L c (s.L.length - s.pv.length) s.pv.length < s.L.length := fun hh => hc ⟨by omega, hh⟩
    rw [f3 i hi (by omega), toK_zero]

theorem elim_spec (m : Mat F.D w L) : ∀ c, ElS F w c L (elim F.D L c)
  | 0 => ⟨m, rfl, (fun x hx => by cases hx), ⟨1, .refl _, by rw [one_mul]; exact toK_one⟩, Rref.start _ _ _⟩
  | c + 1 => (elim_spec m c).step
end

/-! ### Parts of the rows -/

section
variable {D : Ds} {w : Nat}
def cutL (f : List Int → List Int) (L : List (List Int)) : List (List Int) := L.map f
theorem cutL_get {f : List Int → List Int} (hf : f [] = []) (L : List (List Int)) (i : Nat) : (cutL f L).getD i [] = f (L.getD i []) := by
  by_cases hi : i < L.length
  · exact map_getD' f L i [] [] hi
  · rw [getD_out (by simp [cutL]; omega), getD_out (by omega), hf]
theorem cutL_set (f : List Int → List Int) (L : List (List Int)) (i : Nat) (l : List Int) : cutL f (L.set i l) = (cutL f L).set i (f l) := by
  simp [cutL, List.map_set]
theorem cutL_sw {f : List Int → List Int} (hf : f [] = []) (L : List (List Int)) (i k : Nat) : cutL f (swL L i k) = swL (cutL f L) i k := by
  unfold swL
  rw [cutL_set, cutL_set, cutL_get hf, cutL_get hf]
theorem addV_take (v : List Int) (a : Int) (u : List Int) : (addV D v a u).take w = addV D (v.take w) a (u.take w) := by
  refine List.ext_getElem (by simp [addV_len]) fun j h1 h2 => ?_
  simp only [List.length_take, addV_len] at h1 h2
  have e1 : ((addV D v a u).take w)[j] = (addV D v a u).getD j 0 := by
    simp [List.getD, show j < (addV D v a u).length by rw [addV_len]; omega]
  have e2 : (addV D (v.take w) a (u.take w))[j] = (addV D (v.take w) a (u.take w)).getD j 0 := by
    simp [List.getD, show j < (addV D (v.take w) a (u.take w)).length by rw [addV_len, List.length_take]; omega]
  rw [e1, e2, addV_get (by omega), addV_get (by rw [List.length_take]; omega)]
  have t : ∀ l : List Int, (l.take w).getD j 0 = l.getD j 0 := fun l => by simp [List.getD, List.getElem?_take, show j < w by omega]
  rw [t, t]
theorem addV_drop (v : List Int) (a : Int) (u : List Int) : (addV D v a u).drop w = addV D (v.drop w) a (u.drop w) := by
  refine List.ext_getElem (by simp [addV_len]) fun j h1 h2 => ?_
  simp only [List.length_drop, addV_len] at h1 h2
  have e1 : ((addV D v a u).drop w)[j]'(by simp [addV_len]; omega) = (addV D v a u).getD (w + j) 0 := by
    simp [List.getD, show w + j < (addV D v a u).length by rw [addV_len]; omega]
  have e2 : (addV D (v.drop w) a (u.drop w))[j]'(by simp [addV_len]; omega) = (addV D (v.drop w) a (u.drop w)).getD j 0 := by
    simp [List.getD, show j < (addV D (v.drop w) a (u.drop w)).length by rw [addV_len, List.length_drop]; omega]
  rw [e1, e2, addV_get (by omega), addV_get (by rw [List.length_drop]; omega)]
  have t : ∀ l : List Int, (l.drop w).getD j 0 = l.getD (w + j) 0 := fun l => by simp [List.getD, List.getElem?_drop]
  rw [t, t]
theorem scV_take (a : Int) (l : List Int) : (scV D a l).take w = scV D a (l.take w) := by simp [scV, List.map_take]
theorem scV_drop (a : Int) (l : List Int) : (scV D a l).drop w = scV D a (l.drop w) := by simp [scV, List.map_drop]
theorem take_get {l : List Int} {c : Nat} (h : c < w) : (l.take w).getD c 0 = l.getD c 0 := by simp [List.getD, List.getElem?_take, h]

abbrev tkL (w : Nat) (L : List (List Int)) := cutL (List.take w) L
abbrev dpL (w : Nat) (L : List (List Int)) := cutL (List.drop w) L
theorem tk_nil (w : Nat) : ([] : List Int).take w = [] := List.take_nil
theorem dp_nil (w : Nat) : ([] : List Int).drop w = [] := List.drop_nil
theorem tkL_rowC {c : Nat} (hc : c < w) (M : List (List Int)) (at' k : Nat) : tkL w (rowC D M c at' k) = rowC D (tkL w M) c at' k := by
  unfold rowC
  rw [cutL_get (tk_nil w), cutL_get (tk_nil w), take_get hc]
  split
  · unfold tkL; rw [cutL_set, addV_take]
  · rfl
theorem tkL_clr {c : Nat} (hc : c < w) (L : List (List Int)) (at' : Nat) : ∀ k, tkL w (clrL D L c at' k) = clrL D (tkL w L) c at' k
  | 0 => rfl
  | k + 1 => by simp only [clrL]; rw [tkL_rowC hc, tkL_clr hc]
theorem tkL_pvt {c : Nat} (hc : c < w) (L : List (List Int)) (at' : Nat) : tkL w (pvt D L at' c) = pvt D (tkL w L) at' c := by
  unfold pvt
  rw [cutL_get (tk_nil w), take_get hc]
  split
  · unfold tkL; rw [cutL_set, scV_take]
  · rfl
theorem tkL_fnd {c : Nat} (hc : c < w) (L : List (List Int)) : ∀ n k, fnd (tkL w L) c n k = fnd L c n k
  | 0, k => rfl
  | n + 1, k => by simp only [fnd]; rw [cutL_get (tk_nil w), take_get hc, tkL_fnd hc]
def ES.tk (w : Nat) (s : ES) : ES := ⟨tkL w s.L, s.pv, s.det⟩
theorem est_tk {c : Nat} (hc : c < w) (s : ES) : est D c (s.tk w) = (est D c s).tk w := by
  unfold est ES.tk
  have hl : (tkL w s.L).length = s.L.length := by simp [cutL]
  simp only [hl, tkL_fnd hc]
  split
  · simp only [tkL_clr hc, tkL_pvt hc, cutL_sw (tk_nil w)]
    rw [← cutL_sw (tk_nil w), cutL_get (tk_nil w), take_get hc]
  · rfl
theorem elim_tk (L : List (List Int)) : ∀ c, c ≤ w → elim D (tkL w L) c = (elim D L c).tk w
  | 0, _ => rfl
  | c + 1, h => by simp only [elim]; rw [elim_tk L c (by omega), est_tk (by omega)]
end
end Go.AM.Ytmihmgnjnedfcaa
end

section
/- Codes of the program, as the conversion gives them. -/
set_option maxRecDepth 100000
namespace Go.AM.Ytmihmgnjnedfcaa
open Go Go.AM
-- law52_small
abbrev c_law52_small_2 : SC := .ret
abbrev c_law52_small_1 : SC := .seq (.reg [o 3 (.fadr (.t 1) 6), o 4 (.ld (.t 3) 1 false), o 5 (.len (.t 4)), o 6 (.bin .leq (.t 5) (ki 12)), o 7 (.mv (.t 6)), og 7 true 0 8 (.ld (.t 1) 7 true), og 7 true 0 9 (.call (.f n_ref52_Check) [.t 8]), og 7 true 0 10 (.bin .eql (.t 9) (ki 0)), o 11 (.pick (.t 7) (.t 10) (kb false)), o 2 (.mv (.t 11))]) c_law52_small_2
abbrev c_law52_small_0 : SC := .seq (.reg [o 1 (.box (.t 0)), o 2 (.mv (kb false))]) c_law52_small_1
theorem cf_law52_small : cfun Go.Proofs.Try.prog md n_law52_small = some ⟨1, 12, c_law52_small_0.erase, [.t 2]⟩ := by kernel_rfl
-- law52_file
abbrev c_law52_fileL0_2 : SC := (.reg [o 25 (.mv (.t 8)), o 26 (.bin .add (.t 25) (ki 1)), o 8 (.mv (.t 26))])
abbrev c_law52_fileL0_1 : SC := .seq (.block 1 (.reg [o 27 (.mv (.t 7)), o 28 (.mv (.t 8)), o 29 (.fadr (.t 2) 0), o 31 (.mv (.t 1)), o 32 (.mv (.t 8)), o 33 (.iadr (.t 31) (.t 32) 1), o 30 (.ld (.t 29) 3 true), o 34 (.ld (.t 33) 1 false), om 1 35 (.call (.f n_ref04_In) [.t 30, .t 34]), o 36 (.iadr (.t 27) (.t 28) 1), os (.st (.t 36) (.t 35) 1)])) c_law52_fileL0_2
abbrev c_law52_fileL0_0 : SC := .seq (.seq (.reg [o 16 (.mv (.t 8)), o 17 (.mv (.t 5)), o 18 (.bin .lss (.t 16) (.t 17)), o 19 (.mv (.t 18)), og 19 true 0 20 (.mv (.t 8)), og 19 true 0 21 (.mv (.t 1)), og 19 true 0 22 (.len (.t 21)), og 19 true 0 23 (.bin .lss (.t 20) (.t 22)), o 24 (.pick (.t 19) (.t 23) (kb false))]) (.cond (.t 24) .skip (.exit 0))) c_law52_fileL0_1
abbrev c_law52_file_5 : SC := .ret
abbrev c_law52_file_4 : SC := .seq (.reg [o 37 (.mv (.t 7)), o 4 (.mv (.t 37))]) c_law52_file_5
abbrev c_law52_file_3 : SC := .seq (.seq (.reg [o 8 (.mv (ki 0))]) (.block 0 (.loop c_law52_fileL0_0))) c_law52_file_4
abbrev c_law52_file_2 : SC := .seq (.reg [o 14 (.mv (.t 5)), o 15 (.mks (.t 14) 1 [I 0]), o 7 (.mv (.t 15))]) c_law52_file_3
abbrev c_law52_file_1 : SC := .seq (.reg [o 10 (.ld (.t 2) 7 true), o 11 (.call (.f n_ref52_Size) [.t 10]), o 9 (.mv (.t 11)), o 12 (.ext (.t 9) 0), o 13 (.ext (.t 9) 1), o 5 (.mv (.t 12)), o 6 (.mv (.t 13))]) c_law52_file_2
abbrev c_law52_file_0 : SC := .seq (.reg [o 2 (.box (.t 0)), o 4 (.mv (.k .nils))]) c_law52_file_1
theorem cf_law52_file : cfun Go.Proofs.Try.prog md n_law52_file = some ⟨2, 38, c_law52_file_0.erase, [.t 4]⟩ := by kernel_rfl
-- law52_RegenerateLinear
abbrev c_law52_RegenerateLinearL0_2 : SC := (.reg [o 92 (.mv (.t 17)), o 93 (.bin .add (.t 92) (ki 1)), o 17 (.mv (.t 93))])
abbrev c_law52_RegenerateLinearL0_1 : SC := .seq (.block 1 (.seq (.reg [o 94 (.mv (.t 11)), o 95 (.mv (.t 17)), o 96 (.iadr (.t 94) (.t 95) 1), o 99 (.mv (.t 13)), o 100 (.mv (.t 17)), o 101 (.iadr (.t 99) (.t 100) 1), o 97 (.ld (.t 96) 1 false), o 98 (.len (.t 97)), o 102 (.ld (.t 101) 1 false), o 103 (.len (.t 102)), o 104 (.bin .neq (.t 98) (.t 103)), o 105 (.mv (.t 104)), og 105 false 0 106 (.mv (.t 11)), og 105 false 0 107 (.mv (.t 17)), og 105 false 0 108 (.iadr (.t 106) (.t 107) 1), og 105 false 0 109 (.ld (.t 108) 1 false), og 105 false 0 110 (.len (.t 109)), og 105 false 0 111 (.bin .eql (.t 110) (ki 0)), o 112 (.pick (.t 105) (kb true) (.t 111)), o 113 (.mv (.t 112)), og 113 false 0 114 (.mv (.t 15)), og 113 false 0 115 (.mv (.t 17)), og 113 false 0 116 (.iadr (.t 114) (.t 115) 1), og 113 false 0 118 (.fadr (.t 4) 0), og 113 false 0 120 (.mv (.t 11)), og 113 false 0 121 (.mv (.t 17)), og 113 false 0 122 (.iadr (.t 120) (.t 121) 1), og 113 false 0 124 (.mv (.t 3)), og 113 false 0 125 (.mv (.t 13)), og 113 false 0 126 (.mv (.t 17)), og 113 false 0 127 (.iadr (.t 125) (.t 126) 1), og 113 false 0 117 (.ld (.t 116) 1 false), og 113 false 0 119 (.ld (.t 118) 3 true), og 113 false 0 123 (.ld (.t 122) 1 false), og 113 false 0 128 (.ld (.t 127) 1 false), og 113 false 1 129 (.call (.f n_ref09_AddTo) [.t 119, .t 123, .t 124, .t 128]), og 113 false 1 130 (.call (.f n_ref09_SameInts) [.t 117, .t 129]), og 113 false 0 131 (.not (.t 130)), o 132 (.pick (.t 113) (kb true) (.t 131))]) (.cond (.t 132) (.seq (.reg [o 8 (.mv (kb false))]) .ret) .skip))) c_law52_RegenerateLinearL0_2
abbrev c_law52_RegenerateLinearL0_0 : SC := .seq (.seq (.reg [o 88 (.mv (.t 17)), o 89 (.mv (.t 11)), o 90 (.len (.t 89)), o 91 (.bin .lss (.t 88) (.t 90))]) (.cond (.t 91) .skip (.exit 0))) c_law52_RegenerateLinearL0_1
abbrev c_law52_RegenerateLinear_10 : SC := .ret
abbrev c_law52_RegenerateLinear_9 : SC := .seq (.reg [o 8 (.mv (kb true))]) c_law52_RegenerateLinear_10
abbrev c_law52_RegenerateLinear_8 : SC := .seq (.seq (.reg [o 17 (.mv (ki 0))]) (.block 0 (.loop c_law52_RegenerateLinearL0_0))) c_law52_RegenerateLinear_9
abbrev c_law52_RegenerateLinear_7 : SC := .seq (.seq (.reg [o 54 (.mv (.t 12)), o 55 (.bin .neq (.t 54) (ki 0)), o 56 (.mv (.t 55)), og 56 false 0 57 (.mv (.t 14)), og 56 false 0 58 (.bin .neq (.t 57) (ki 0)), o 59 (.pick (.t 56) (kb true) (.t 58)), o 60 (.mv (.t 59)), og 60 false 0 61 (.mv (.t 16)), og 60 false 0 62 (.bin .neq (.t 61) (ki 0)), o 63 (.pick (.t 60) (kb true) (.t 62)), o 64 (.mv (.t 63)), og 64 false 0 65 (.mv (.t 11)), og 64 false 0 66 (.len (.t 65)), og 64 false 0 67 (.fadr (.t 4) 6), og 64 false 0 68 (.ld (.t 67) 1 false), og 64 false 0 69 (.len (.t 68)), og 64 false 0 70 (.bin .neq (.t 66) (.t 69)), o 71 (.pick (.t 64) (kb true) (.t 70)), o 72 (.mv (.t 71)), og 72 false 0 73 (.mv (.t 13)), og 72 false 0 74 (.len (.t 73)), og 72 false 0 75 (.fadr (.t 4) 6), og 72 false 0 76 (.ld (.t 75) 1 false), og 72 false 0 77 (.len (.t 76)), og 72 false 0 78 (.bin .neq (.t 74) (.t 77)), o 79 (.pick (.t 72) (kb true) (.t 78)), o 80 (.mv (.t 79)), og 80 false 0 81 (.mv (.t 15)), og 80 false 0 82 (.len (.t 81)), og 80 false 0 83 (.fadr (.t 4) 6), og 80 false 0 84 (.ld (.t 83) 1 false), og 80 false 0 85 (.len (.t 84)), og 80 false 0 86 (.bin .neq (.t 82) (.t 85)), o 87 (.pick (.t 80) (kb true) (.t 86))]) (.cond (.t 87) (.seq (.reg [o 8 (.mv (kb false))]) .ret) .skip)) c_law52_RegenerateLinear_8
abbrev c_law52_RegenerateLinear_6 : SC := .seq (.reg [o 45 (.fadr (.t 4) 0), o 47 (.mv (.t 9)), o 48 (.mv (.t 3)), o 49 (.mv (.t 10)), o 44 (.ld (.t 4) 7 true), o 46 (.ld (.t 45) 3 true), om 1 50 (.call (.f n_ref09_AddTo) [.t 46, .t 47, .t 48, .t 49]), om 1 51 (.call (.f n_regenerate_Encode) [.t 44, .t 50]), o 43 (.mv (.t 51)), o 52 (.ext (.t 43) 0), o 53 (.ext (.t 43) 1), o 15 (.mv (.t 52)), o 16 (.mv (.t 53))]) c_law52_RegenerateLinear_7
abbrev c_law52_RegenerateLinear_5 : SC := .seq (.reg [o 38 (.ld (.t 4) 7 true), o 39 (.mv (.t 10)), o 40 (.call (.f n_regenerate_Encode) [.t 38, .t 39]), o 37 (.mv (.t 40)), o 41 (.ext (.t 37) 0), o 42 (.ext (.t 37) 1), o 13 (.mv (.t 41)), o 14 (.mv (.t 42))]) c_law52_RegenerateLinear_6
abbrev c_law52_RegenerateLinear_4 : SC := .seq (.reg [o 32 (.ld (.t 4) 7 true), o 33 (.mv (.t 9)), o 34 (.call (.f n_regenerate_Encode) [.t 32, .t 33]), o 31 (.mv (.t 34)), o 35 (.ext (.t 31) 0), o 36 (.ext (.t 31) 1), o 11 (.mv (.t 35)), o 12 (.mv (.t 36))]) c_law52_RegenerateLinear_5
abbrev c_law52_RegenerateLinear_3 : SC := .seq (.reg [o 27 (.fadr (.t 4) 0), o 28 (.ld (.t 27) 3 true), o 29 (.mv (.t 3)), o 30 (.call (.f n_ref04_In) [.t 28, .t 29]), o 3 (.mv (.t 30))]) c_law52_RegenerateLinear_4
abbrev c_law52_RegenerateLinear_2 : SC := .seq (.reg [o 22 (.mv (.t 1)), o 25 (.mv (.t 2)), o 21 (.ld (.t 4) 7 true), o 24 (.ld (.t 4) 7 true), om 1 23 (.call (.f n_law52_file) [.t 21, .t 22]), om 1 26 (.call (.f n_law52_file) [.t 24, .t 25]), o 9 (.mv (.t 23)), o 10 (.mv (.t 26))]) c_law52_RegenerateLinear_3
abbrev c_law52_RegenerateLinear_1 : SC := .seq (.seq (.reg [o 18 (.ld (.t 4) 7 true), o 19 (.call (.f n_law52_small) [.t 18]), o 20 (.not (.t 19))]) (.cond (.t 20) (.seq (.reg [o 8 (.mv (kb true))]) .ret) .skip)) c_law52_RegenerateLinear_2
abbrev c_law52_RegenerateLinear_0 : SC := .seq (.reg [o 4 (.box (.t 0)), o 8 (.mv (kb false))]) c_law52_RegenerateLinear_1
theorem cf_law52_RegenerateLinear : cfun Go.Proofs.Try.prog md n_law52_RegenerateLinear = some ⟨4, 133, c_law52_RegenerateLinear_0.erase, [.t 8]⟩ := by kernel_rfl
end Go.AM.Ytmihmgnjnedfcaa
end

section
/- The code of chapter 52 is linear. No code is walked here. -/
set_option maxRecDepth 100000
set_option linter.unusedSimpArgs false
set_option linter.unusedVariables false
namespace Go.AM.Ytmihmgnjnedfcaa
open Go Go.AM Go.FM Go.LA

theorem matF_at {r c : Nat} {e : Nat → Nat → Int} (a b : Nat) : ((matF r c e).getD a []).getD b 0 = if a < r ∧ b < c then e a b else 0 := by
  by_cases ha : a < r
  · rw [matF_row ha]
    by_cases hb : b < c
    · rw [if_pos ⟨ha, hb⟩]; simp [List.getD, hb]
    · rw [if_neg (by omega)]; exact getD_out (by simp; omega)
  · rw [if_neg (by omega), show (matF r c e).getD a [] = [] by simp [matF, List.getD, List.getElem?_eq_none, Nat.le_of_not_lt ha]]
    rfl
theorem drop_at (l : List Int) (m i : Nat) : (l.drop m).getD i 0 = l.getD (m + i) 0 := by simp [List.getD, List.getElem?_drop]
theorem app_at (A B : List (List Int)) (a : Nat) : (A ++ B).getD a [] = if a < A.length then A.getD a [] else B.getD (a - A.length) [] := by
  by_cases h : a < A.length
  · rw [if_pos h]; simp [List.getD, List.getElem?_append_left h]
  · rw [if_neg h]; simp [List.getD, List.getElem?_append_right (Nat.le_of_not_lt h)]

/-- Each entry of the message matrix is zero or a fixed entry of the file. -/
theorem msg_sel (st : Bool) (k d a b : Nat) : (∀ l, ((msgL st k d l).getD a []).getD b 0 = 0) ∨ ∃ i, ∀ l, ((msgL st k d l).getD a []).getD b 0 = l.getD i 0 := by
  cases st
  · by_cases h0 : a < d ∧ b < d
    · have e : ∀ l, ((msgL false k d l).getD a []).getD b 0 = msgB k d l a b := fun l => by rw [msgL_bw, matF_at, if_pos h0]
      unfold msgB at e
      by_cases h1 : a < k ∧ b < k
      · exact .inr ⟨_, fun l => by rw [e, if_pos h1]⟩
      · by_cases h2 : a < k
        · exact .inr ⟨_, fun l => by rw [e, if_neg h1, if_pos h2]⟩
        · by_cases h3 : b < k
          · exact .inr ⟨_, fun l => by rw [e, if_neg h1, if_neg h2, if_pos h3]⟩
          · exact .inl fun l => by rw [e, if_neg h1, if_neg h2, if_neg h3]
    · exact .inl fun l => by rw [msgL_bw, matF_at, if_neg h0]
  · have e : ∀ l, ((msgL true k d l).getD a []).getD b 0 = if a < k - 1 then (if a < k - 1 ∧ b < k - 1 then l.getD (ixS (k - 1) (min a b) (max a b)) 0 else 0)
        else if a - (k - 1) < k - 1 ∧ b < k - 1 then l.getD (bas (k - 1) (k - 1) + ixS (k - 1) (min (a - (k - 1)) b) (max (a - (k - 1)) b)) 0 else 0 := fun l => by
      rw [msgL_st, app_at, symL_len]
      split
      · unfold symL; rw [matF_at]
      · unfold symL; rw [matF_at, drop_at]
    by_cases h1 : a < k - 1
    · by_cases h2 : a < k - 1 ∧ b < k - 1
      · exact .inr ⟨_, fun l => by rw [e, if_pos h1, if_pos h2]⟩
      · exact .inl fun l => by rw [e, if_pos h1, if_neg h2]
    · by_cases h2 : a - (k - 1) < k - 1 ∧ b < k - 1
      · exact .inr ⟨_, fun l => by rw [e, if_neg h1, if_pos h2]⟩
      · exact .inl fun l => by rw [e, if_neg h1, if_neg h2]

section
variable {F : FB}
theorem msg_lin (st : Bool) (k d : Nat) {f g : List Int} (hfg : g.length ≤ f.length) (x : Int) (a b : Nat) : mtx F (msgL st k d (addV F.D f x g)) a b = mtx F (msgL st k d f) a b + toK F x * mtx F (msgL st k d g) a b := by
  show toK F (((msgL st k d (addV F.D f x g)).getD a []).getD b 0) = toK F (((msgL st k d f).getD a []).getD b 0) + toK F x * toK F (((msgL st k d g).getD a []).getD b 0)
  rcases msg_sel st k d a b with h | ⟨i, h⟩
  · rw [h, h, h, toK_zero, LA.mul_zero, LA.add_zero]
  · rw [h, h, h]
    exact vc_addV hfg x i

theorem cmb_R (o : F.D.Ok) (x : List Int) (L : List (List Int)) (n : Nat) : ∀ k, ∀ y ∈ combK F.D x L n k, F.D.R y
  | 0, y, hy => by
    simp only [combK] at hy
    rw [List.eq_of_mem_replicate hy]; exact o.q0
  | k + 1, y, hy => by
    simp only [combK] at hy
    split at hy
    · exact addV_R o (cmb_R o x L n k) _ y hy
    · exact cmb_R o x L n k y hy
theorem vc_cmb {w : Nat} {L : List (List Int)} (hw : ∀ i, i < L.length → (L.getD i []).length = w) (x : List Int) : ∀ k, k ≤ L.length → ∀ j, vc F (combK F.D x L w k) j = Sm k fun i => vc F x i * mtx F L i j
  | 0, _, j => by
    simp only [combK, Sm]
    unfold vc
    by_cases hj : j < w
    · rw [show (List.replicate w (0 : Int)).getD j 0 = 0 by simp [List.getD, hj]]; exact toK_zero
    · rw [getD_out (by simp; omega)]; exact toK_zero
  | k + 1, hk, j => by
    have ih := vc_cmb hw x k (by omega) j
    have hl := combK_len F.D x L w k
    simp only [combK, Sm]
    by_cases h : x.getD k 0 ≠ 0
    · rw [if_pos h, vc_addV (by rw [hl, hw k (by omega)]; exact Nat.le_refl _), ih]
      rfl
    · rw [if_neg h, ih]
      have : x.getD k 0 = 0 := Classical.byContradiction h
      have e : vc F x k = 0 := by unfold vc; rw [this]; exact toK_zero
      rw [e, LA.zero_mul, LA.add_zero]
theorem vcx {l l' : List Int} (h1 : l.length = l'.length) (r1 : ∀ x ∈ l, F.D.R x) (r2 : ∀ x ∈ l', F.D.R x) (h : ∀ j, j < l.length → vc F l j = vc F l' j) : l = l' := by
  refine List.ext_getElem h1 fun j a b => ?_
  have := h j a
  unfold vc at this
  have e := toK_inj (F := F) (r1 _ (mem_getD a)) (r2 _ (mem_getD b)) this
  simpa [List.getD, a, b] using e
end

theorem Rc.enc_len (R : Rc) (l : List Int) : (R.enc l).length = R.pts.length := by simp [Rc.enc]
/-- Encoding is linear. -/
theorem enc_lin {R : Rc} (hf : FieldP R.p R.m R.mo) (ok : R.Okn) {f g : List Int} (hfg : g.length ≤ f.length) (x : Int) {j : Nat} (hj : j < R.pts.length) :
    (R.enc (addV R.D f x g)).getD j [] = addV R.D ((R.enc f).getD j []) x ((R.enc g).getD j []) := by
  obtain ⟨k, d, hk, hd, _⟩ := ok.nums
  have e : ∀ l, (R.enc l).getD j [] = combK R.D (pwL R.D (R.pts.getD j 0) R.d.toNat) (R.msg l) R.szN.toNat d := fun l => by
    unfold Rc.enc
    rw [map_getD' (fun x => combK R.D (pwL R.D x R.d.toNat) (R.msg l) R.szN.toNat R.d.toNat) R.pts j 0 [] hj, hd, Int.toNat_natCast]
  have hml : ∀ l, R.msg l = msgL (decide (R.kd = 1)) k d l := fun l => by unfold Rc.msg; rw [hk, hd, Int.toNat_natCast, Int.toNat_natCast]
  have hmw : ∀ l, ∀ i, i < (R.msg l).length → ((R.msg l).getD i []).length = R.szN.toNat := fun l i hi => by
    rw [hml] at hi ⊢
    have := (msgL_row ok hk hd (mem_getD (d := []) hi)).1
    omega
  have hmn : ∀ l, (R.msg l).length = d := fun l => by rw [hml]; exact msgL_len ok hk hd l
  rw [e, e, e]
  refine vcx (F := ⟨R.D, hf.fd⟩) (by rw [combK_len, addV_len, combK_len]) (cmb_R (F := ⟨R.D, hf.fd⟩) hf.fd.toOk _ _ _ _) (addV_R hf.fd.toOk (cmb_R (F := ⟨R.D, hf.fd⟩) hf.fd.toOk _ _ _ _) _) fun c _ => ?_
  have ha := vc_addV (F := ⟨R.D, hf.fd⟩) (v := combK R.D (pwL R.D (R.pts.getD j 0) R.d.toNat) (R.msg f) R.szN.toNat d) (u := combK R.D (pwL R.D (R.pts.getD j 0) R.d.toNat) (R.msg g) R.szN.toNat d) (by rw [combK_len, combK_len]; exact Nat.le_refl _) x c
  have h1 := fun l => vc_cmb (F := ⟨R.D, hf.fd⟩) (hmw l) (pwL R.D (R.pts.getD j 0) R.d.toNat) d (by rw [hmn]; exact Nat.le_refl _) c
  simp only at ha h1
  rw [ha, h1, h1, h1, ← Sm_mul, ← Sm_add]
  refine Sm_congr fun i hi => ?_
  have := msg_lin (F := ⟨R.D, hf.fd⟩) (decide (R.kd = 1)) k d hfg x i c
  simp only at this
  rw [hml, hml, hml, this, LA.mul_add]
  congr 1
  rw [← LA.mul_assoc, LA.mul_comm (vc _ _ i), LA.mul_assoc]
end Go.AM.Ytmihmgnjnedfcaa
end

section
/- The law RegenerateLinear. -/
set_option maxRecDepth 100000
set_option linter.unusedSimpArgs false
set_option linter.unusedVariables false
namespace Go.AM.Ytmihmgnjnedfcaa
open Go Go.AM
attribute [local simp ↓] awp_seq awp_reg awp_skip awp_cond' awp_block awp_exit awp_ret awp_fz thenW_normal thenW_exit thenW_ret inBlk_normal inBlk_exit inBlk_ret aops_cons' contA_ap aops_nil e_mv e_guard' e_pick' e_ld' e_app e_cpy e_st' e_call callW_f updO_some updO_none e_bin' e_isnil' e_fadr' e_iadr' e_iarr' e_len' e_build' e_mkf' e_nc' e_not' e_neg' e_cvt' e_slc' e_fld' e_ext' e_min' e_eqs' e_new e_box e_mkl e_mks
attribute [local simp] upd_apply ev_t ev_k ev_f binA_add binA_sub binA_mul binA_quo binA_rem binA_eql binA_neq binA_lss binA_leq binA_gtr binA_geq det mem frame0 keeps_nil iadrA_sl fadrA_ref fadrA_fp ldv_agg ldv_one cells_base hset_same hset_hset lenA_fs lenA_sl lenA_nils zeros_ints ints_length one_base one_nilp one_nils one_ref one_sl one_fp one_fs one_fn gl_one resA resOf bound natOf afill splice AV.cells cells_agg bindR_some condR_true condR_false guardR_tup guardR_true guardR_true' guardR_false guardR_false' allocW_some pickA_true pickA_false
open Go.FM

theorem s_small {R : Rc} {mv pv : AV} (hmv : IL mv R.mo) (hml : R.mo.length < 4611686018427387904) (hpv : IL pv R.pts) (hpl : R.pts.length < 4611686018427387904) :
    Pure prog n_law52_small [.agg (R.cells mv pv)] (B (decide (R.pts.length ≤ 12 ∧ R.E = 0))) := by
  classical
  refine pure_of cf_law52_small rfl fun h => ?_
  have hone := hmv.one
  have hone2 := hpv.one
  simp [hone, hone2]
  intro b3 hb3
  obtain ⟨l0, l3, l4, l5, l6, l7⟩ := ld7_at (hset_same h b3 (R.cells mv pv))
  have hkg : Kp h (hset h b3 (R.cells mv pv)) := (Kp.refl h).new hb3 _
  generalize hset h b3 (R.cells mv pv) = g at *
  by_cases n1 : R.pts.length ≤ 12
  · have n1' : (R.pts.length : Int) ≤ 12 := by omega
    simp [l6, l7, hpv.len, n1, n1']
    refine (s_refCheck52 hmv hml hpv hpl).call ?_
    simp
    exact ⟨_, hkg.sub, .id _, rfl⟩
  · have n1' : ¬ (R.pts.length : Int) ≤ 12 := by omega
    simp [l6, hpv.len, n1, n1']
    exact ⟨_, hkg.sub, .id _, rfl⟩

/-- A file, filled as far as k. -/
def filK (D : Ds) (n : Nat) (l : List Int) : Nat → List Int
  | 0 => List.replicate n 0
  | k + 1 => (filK D n l k).set k (D.inn (l.getD k 0))
theorem filK_len (D : Ds) (n : Nat) (l : List Int) : ∀ k, (filK D n l k).length = n
  | 0 => by simp [filK]
  | k + 1 => by simp only [filK, List.length_set, filK_len]
theorem filK_R {D : Ds} (o : D.Ok) (n : Nat) (l : List Int) : ∀ k, ∀ x ∈ filK D n l k, D.R x
  | 0, x, hx => by
    simp only [filK] at hx
    rw [List.eq_of_mem_replicate hx]; exact o.q0
  | k + 1, x, hx => by
    simp only [filK] at hx
    rcases List.mem_or_eq_of_mem_set hx with h | h
    · exact filK_R o n l k x h
    · rw [h]; exact o.innR _
def filL (D : Ds) (n : Nat) (l : List Int) : List Int := filK D n l (min n l.length)

theorem s_file {R : Rc} (hf : FieldP R.p R.m R.mo) (ok : R.Okn) {mv pv v : AV} (hone : one mv = true) (hone2 : one pv = true) {l : List Int} (hv : IL v l) {n : Nat} (hn : R.szF = n) (hn2 : n ≤ 65536) :
    Pure prog n_law52_file [.agg (R.cells mv pv), v] (.fs n (ints (filL R.D n l))) := by
  refine pure_of cf_law52_file rfl fun h => ?_
  have r := hf.fd
  have hn' : (n : Int) ≤ 4294967296 := by omega
  have hsz := s_refSize ok hone hone2
  rw [hn] at hsz
  unfold c_law52_file_0 c_law52_file_1
  generalize hC : c_law52_file_2 = C2
  simp [hone, hone2]
  intro b2 hb2
  have g2 := hset_same h b2 (R.cells mv pv)
  obtain ⟨l0, l3, l4, l5, l6, l7⟩ := ld7_at g2
  have hkg : Kp h (hset h b2 (R.cells mv pv)) := (Kp.refl h).new hb2 _
  generalize hset h b2 (R.cells mv pv) = g at *
  simp [l7]
  refine hsz.call ?_
  simp
  subst hC
  unfold c_law52_file_2 c_law52_file_3
  generalize hC : c_law52_file_4 = C4
  simp [hn']
  intro b7 hb7
  refine awp_for (min n l.length) (fun k fr' h' => Kp g h' ∧ h' b7 = some (ints (filK R.D n l k)) ∧ fr' 8 = I k) ⟨(Kp.refl g).new hb7 _, by rw [hset_same]; rfl, by simp⟩ ?_
  intro k fr1 h1 hkn hk0 ⟨kp1, hb1, k8⟩
  have k1 := hk0 1 (by decide)
  have k2 := hk0 2 (by decide)
  have k5 := hk0 5 (by decide)
  have k7 := hk0 7 (by decide)
  simp at k1 k2 k5 k7
  clear hk0
  by_cases hlt : k < min n l.length
  · have u1 : IntKind.i64.wrap ((k : Int) + 1) = k + 1 := w64 _ (by omega)
    have a1 : k < n := by omega
    have a2 : k < l.length := by omega
    have hia := hv.iadr (i := k) ⟨by omega, by omega⟩
    rw [Int.toNat_natCast] at hia
    have hld := fun h' => ld_ints (h := h') (l := l) (k := k) (by omega)
    have hst := fun R' => sr_ints (R := R') (v := R.D.inn (l.getD k 0)) hb1 (k := k) (by rw [filK_len]; exact a1)
    have hsk : filK R.D n l (k + 1) = (filK R.D n l k).set k (R.D.inn (l.getD k 0)) := rfl
    rw [← hsk] at hst
    obtain ⟨l0', _⟩ := ld7_at (kp1 _ _ g2)
    have hin := s_refIn r.toRg hone (l.getD k 0)
    rw [hf.1.dp, hf.1.dm] at hin
    generalize R.D.inn (l.getD k 0) = z at *
    generalize l.getD k 0 = y at *
    simp [k1, k2, k5, k7, k8, a1, a2, hv.len, hia, hld, l0', hlt]
    refine hin.call ?_
    simp [k8, a1, a2, hst, u1, hlt]
    exact kp1.set hb7 _
  · have hkm : k = min n l.length := by omega
    rw [hkm] at hb1
    have fin : RetP h (.fs n (ints (filL R.D n l))) (.sl b7 0 n 1) h1 := ret_blk hb1 (hkg.no hb7) (hkg.trans kp1) (by rw [ints_length, filK_len]; omega) rfl
    by_cases a1 : k < n
    · have a2 : ¬ k < l.length := by omega
      simp [k1, k5, k8, a1, a2, hv.len]
      subst hC
      simp [k7]
      exact fin
    · simp [k5, k8, a1]
      subst hC
      simp [k7]
      exact fin

set_option maxHeartbeats 2000000 in
theorem s_RegenerateLinear {R : Rc} {mv pv v w : AV} (hmv : IL mv R.mo) (hml : R.mo.length < 4611686018427387904) (hpv : IL pv R.pts) (hpl : R.pts.length < 4611686018427387904) {l m : List Int} (hv : IL v l) (hll : l.length < 4611686018427387904) (hw : IL w m) (hmm : m.length < 4611686018427387904) (x : Int) :
    Pure prog n_law52_RegenerateLinear [.agg (R.cells mv pv), v, w, I x] (B true) := by
  classical
  refine pure_of cf_law52_RegenerateLinear rfl fun h => ?_
  have hone := hmv.one
  have hone2 := hpv.one
  unfold c_law52_RegenerateLinear_0 c_law52_RegenerateLinear_1
  generalize hC : c_law52_RegenerateLinear_2 = C2
  simp [hone, hone2]
  intro b4 hb4
  obtain ⟨l0, l3, l4, l5, l6, l7⟩ := ld7_at (hset_same h b4 (R.cells mv pv))
  have hkg : Kp h (hset h b4 (R.cells mv pv)) := (Kp.refl h).new hb4 _
  generalize hset h b4 (R.cells mv pv) = g at *
  simp [l7]
  refine (s_small hmv hml hpv hpl).call ?_
  by_cases hsm : R.pts.length ≤ 12 ∧ R.E = 0
  case neg =>
    rw [decide_eq_false hsm]
    simp
    exact ⟨_, hkg.sub, .id _, rfl⟩
  rw [decide_eq_true hsm]
  obtain ⟨hp12, hE⟩ := hsm
  obtain ⟨hf, e2, e3, ok, e5, _⟩ := Rc.E0 hE
  have r := hf.fd
  have hsF : 0 ≤ R.szF ∧ R.szF ≤ 8192 := by
    obtain ⟨q1, q2, q3, q4⟩ := ok.bd
    have q5 : R.k * (R.k - 1) ≤ R.k * R.d := Int.mul_le_mul_of_nonneg_left (by have := ok.kd2; omega) (by have := ok.k1; omega)
    unfold Rc.szF
    generalize R.k * (R.k - 1) = m1 at *
    generalize R.k * R.d = m2 at *
    split <;> omega
  have hsN : 1 ≤ R.szN ∧ R.szN ≤ 63 := by
    have h1 := ok.k1
    have h2 := ok.kd2
    have h3 := ok.d
    unfold Rc.szN
    split
    · rename_i hk
      have := ok.st hk; omega
    · omega
  obtain ⟨n, hn⟩ : ∃ n : Nat, R.szF = n := ⟨R.szF.toNat, by omega⟩
  obtain ⟨sn, hsn⟩ : ∃ n : Nat, R.szN = n := ⟨R.szN.toNat, by omega⟩
  have f1 := s_file hf ok hone hone2 hv hn (by omega)
  have f2 := s_file hf ok hone hone2 hw hn (by omega)
  have fl1 : (filL R.D n l).length = n := filK_len ..
  have fl2 : (filL R.D n m).length = n := filK_len ..
  have fR1 := filK_R r.toOk n l (min n l.length)
  have fR2 := filK_R r.toOk n m (min n m.length)
  have i1 : IL (.fs n (ints (filL R.D n l))) (filL R.D n l) := by have := IL.fs (filL R.D n l); rwa [fl1] at this
  have i2 : IL (.fs n (ints (filL R.D n m))) (filL R.D n m) := by have := IL.fs (filL R.D n m); rwa [fl2] at this
  have fR1 : ∀ x ∈ filL R.D n l, R.D.R x := fR1
  have fR2 : ∀ x ∈ filL R.D n m, R.D.R x := fR2
  generalize filL R.D n l = F1 at *
  generalize filL R.D n m = F2 at *
  have hin := s_refIn r.toRg hone x
  rw [hf.1.dp, hf.1.dm] at hin
  have hmv2 : IL mv R.D.mo := hmv
  have enc : ∀ F : List Int, F.length = n → (∀ x ∈ F, R.D.R x) → ∀ fv, IL fv F → Pure prog n_regenerate_Encode [.agg (R.cells mv pv), fv] (.tup [gml (R.enc F), I 0]) := fun F h1 h2 fv h3 => by
    have := s_Encode hmv hml hpv hpl h3 (by omega)
    have h0 : R.encE F = 0 := by
      rw [Rc.encE, if_neg (by simpa using hE)]
      unfold elE
      rw [if_neg (by omega), if_pos h2]
    rwa [Rc.encR, if_pos h0] at this
  have E1 := enc F1 fl1 fR1 _ i1
  have E2 := enc F2 fl2 fR2 _ i2
  generalize R.D.inn x = y at *
  have ad := fun h => s_AddTo (h := h) r hmv2 (RS.of i1) (RS.of i2) (by omega) (by omega) y
  rw [hf.1.dp, hf.1.dm, fl1] at ad
  have fl3 : (addV R.D F1 y F2).length = n := by rw [addV_len, fl1]
  have i3 : IL (.fs n (ints (addV R.D F1 y F2))) (addV R.D F1 y F2) := by have := IL.fs (addV R.D F1 y F2); rwa [fl3] at this
  have E3 := enc _ fl3 (addV_R r.toOk fR1 _) _ i3
  have lin := fun j hj => enc_lin (R := R) hf ok (f := F1) (g := F2) (by omega) y (j := j) hj
  have M1 := ML_gml (R.enc F1)
  have M2 := ML_gml (R.enc F2)
  have M3 := ML_gml (R.enc (addV R.D F1 y F2))
  have L1 := R.enc_len F1
  have L2 := R.enc_len F2
  have L3 := R.enc_len (addV R.D F1 y F2)
  have w1 : ∀ j, j < R.pts.length → ((R.enc F1).getD j []).length = sn := fun j hj => by rw [enc_rows (mem_getD (by omega))]; omega
  have w2 : ∀ j, j < R.pts.length → ((R.enc F2).getD j []).length = sn := fun j hj => by rw [enc_rows (mem_getD (by omega))]; omega
  generalize R.enc (addV R.D F1 y F2) = X3 at *
  generalize R.enc F1 = X1 at *
  generalize R.enc F2 = X2 at *
  generalize AV.fs n (ints F1) = V1 at *
  generalize AV.fs n (ints F2) = V2 at *
  generalize AV.fs n (ints (addV R.D F1 y F2)) = V3 at *
  generalize gml X1 = G1 at *
  generalize gml X2 = G2 at *
  generalize gml X3 = G3 at *
  have o1 := M1.len
  have o2 := M2.len
  have o3 := M3.len
  rw [L1] at o1
  rw [L2] at o2
  rw [L3] at o3
  simp
  subst hC
  unfold c_law52_RegenerateLinear_2
  generalize hC : c_law52_RegenerateLinear_3 = C3
  simp [l7]
  refine f1.call ?_
  simp
  refine f2.call ?_
  simp
  subst hC
  unfold c_law52_RegenerateLinear_3
  generalize hC : c_law52_RegenerateLinear_4 = C4
  simp [l0]
  refine hin.call ?_
  simp
  subst hC
  unfold c_law52_RegenerateLinear_4
  generalize hC : c_law52_RegenerateLinear_5 = C5
  simp [l7]
  refine E1.call ?_
  simp
  subst hC
  unfold c_law52_RegenerateLinear_5
  generalize hC : c_law52_RegenerateLinear_6 = C6
  simp [l7]
  refine E2.call ?_
  simp
  subst hC
  unfold c_law52_RegenerateLinear_6
  generalize hC : c_law52_RegenerateLinear_7 = C7
  simp [l7, l0]
  refine (ad g).call ?_
  simp
  refine E3.call ?_
  simp
  refine awp_gen [3, 4, 11, 12, 13, 14, 15, 16] fun fr1 hsl => ?_
  have p3 := hsl 3 (by simp)
  have p4 := hsl 4 (by simp)
  have p11 := hsl 11 (by simp)
  have p12 := hsl 12 (by simp)
  have p13 := hsl 13 (by simp)
  have p14 := hsl 14 (by simp)
  have p15 := hsl 15 (by simp)
  have p16 := hsl 16 (by simp)
  simp at p3 p4 p11 p12 p13 p14 p15 p16
  clear hsl
  subst hC
  unfold c_law52_RegenerateLinear_7
  generalize hC : c_law52_RegenerateLinear_8 = C8
  simp [p4, p11, p12, p13, p14, p15, p16, o1, o2, o3, l6, hpv.len]
  subst hC
  unfold c_law52_RegenerateLinear_8
  generalize hC : c_law52_RegenerateLinear_9 = C9
  simp
  refine awp_for R.pts.length (fun j fr' h' => h' = g ∧ fr' 17 = I j) ⟨rfl, by simp⟩ ?_
  intro j fr2 h2 hjn hk0 ⟨hh, k17⟩
  subst hh
  have k3 := hk0 3 (by decide)
  have k4 := hk0 4 (by decide)
  have k11 := hk0 11 (by decide)
  have k13 := hk0 13 (by decide)
  have k15 := hk0 15 (by decide)
  simp [p3, p4, p11, p13, p15] at k3 k4 k11 k13 k15
  clear hk0
  by_cases hlt : j < R.pts.length
  · have u1 : IntKind.i64.wrap ((j : Int) + 1) = j + 1 := w64 _ (by omega)
    obtain ⟨pa1, r1, a1, b1, c1⟩ := M1.rd (i := j) (by omega)
    obtain ⟨pa2, r2, a2, b2, c2⟩ := M2.rd (i := j) (by omega)
    obtain ⟨pa3, r3, a3, b3, c3⟩ := M3.rd (i := j) (by omega)
    have ww1 := w1 j hlt
    have ww2 := w2 j hlt
    have la := c1.len
    have lb := c2.len
    rw [ww1] at la
    rw [ww2] at lb
    have at1 := s_AddTo (h := h2) r hmv2 (RS.of c1) (RS.of c2) (by omega) (by omega) y
    rw [hf.1.dp, hf.1.dm, ww1, ← lin j hlt] at at1
    have hcl : (X3.getD j []).length = sn := by rw [lin j hlt, addV_len, ww1]
    have i4 : IL (.fs sn (ints (X3.getD j []))) (X3.getD j []) := by have := IL.fs (X3.getD j []); rwa [hcl] at this
    have si := s_SameInts c3 i4 (by omega)
    rw [decide_eq_true rfl] at si
    have hs0 : ¬ sn = 0 := by omega
    generalize AV.fs sn (ints (X3.getD j [])) = q4 at *
    simp [k3, k4, k11, k13, k15, k17, o1, o2, o3, hlt, a1, a2, a3, b1, b2, b3, la, lb, hs0, l0]
    refine at1.call ?_
    simp
    refine si.call ?_
    simp [k17, u1, hlt]
  · have hjL : j = R.pts.length := by omega
    simp [k11, k17, o1, hjL]
    subst hC
    simp
    exact ⟨_, hkg.sub, .id _, rfl⟩
end Go.AM.Ytmihmgnjnedfcaa
end

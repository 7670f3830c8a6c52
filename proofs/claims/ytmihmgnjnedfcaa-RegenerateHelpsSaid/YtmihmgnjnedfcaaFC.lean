/- How the two programs multiply: Horner's rule over digits, and the product of polynomials that is reduced afterwards. No Go program in it. -/
import Derived.Test.YtmihmgnjnedfcaaFB
set_option linter.unusedSimpArgs false
set_option linter.unusedVariables false
namespace Go.FM

theorem S_shift (f : Nat → Int) : ∀ n, S (n + 1) f = f 0 + S n (fun i => f (i + 1))
  | 0 => by simp [S]
  | n + 1 => by rw [S, S_shift f n]; simp only [S]; omega

/-- One step of Horner's rule; t is what the top digit asks of the modulus. -/
def hgo (p t c : Int) : Int → List Int → List Int → List Int → List Int
  | prev, o :: os, f :: fs, a :: as => ((prev + t * f + c * a) % p) :: hgo p t c o os fs as
  | _, _, _, _ => []

theorem hgo_length (p t c : Int) : ∀ (os fs as : List Int) (prev : Int), os.length = fs.length → os.length = as.length → (hgo p t c prev os fs as).length = os.length
  | [], _, _, _, _, _ => by simp [hgo]
  | o :: os, [], as, _, h, _ => by simp at h
  | o :: os, f :: fs, [], _, _, h => by simp at h
  | o :: os, f :: fs, a :: as, prev, h, h' => by
    simp only [List.length_cons, Nat.add_right_cancel_iff] at h h'
    simp only [hgo, List.length_cons, hgo_length p t c os fs as o h h']

theorem hgo_get (p t c : Int) : ∀ (os fs as : List Int) (prev : Int), os.length = fs.length → os.length = as.length → ∀ j, j < os.length →
    vl (hgo p t c prev os fs as) j = ((if j = 0 then prev else vl os (j - 1)) + t * vl fs j + c * vl as j) % p
  | [], _, _, _, _, _, j, hj => by simp at hj
  | o :: os, [], as, _, h, _, _, _ => by simp at h
  | o :: os, f :: fs, [], _, _, h, _, _ => by simp at h
  | o :: os, f :: fs, a :: as, prev, h, h', j, hj => by
    simp only [List.length_cons, Nat.add_right_cancel_iff] at h h'
    cases j with
    | zero => simp [hgo, vl]
    | succ j =>
      have := hgo_get p t c os fs as o h h' j (by simp at hj; omega)
      simp only [vl, hgo, List.getD_cons_succ] at this ⊢
      rw [this]
      cases j with
      | zero => simp
      | succ j => simp

def hstep (p : Int) (fs as : List Int) (c : Int) (os : List Int) : List Int := hgo p (p - vl os (os.length - 1)) c 0 os fs as

theorem hstep_length {p : Int} {fs as os : List Int} {c : Int} (h : os.length = fs.length) (h' : os.length = as.length) : (hstep p fs as c os).length = os.length := hgo_length _ _ _ _ _ _ _ h h'

theorem hgo_Dg {p : Int} (hp : 0 < p) (t c : Int) : ∀ (os fs as : List Int) (prev : Int), Dg p (hgo p t c prev os fs as)
  | [], _, _, _ => by simp [hgo, Dg]
  | o :: os, [], as, _ => by simp [hgo, Dg]
  | o :: os, f :: fs, [], _ => by simp [hgo, Dg]
  | o :: os, f :: fs, a :: as, prev => by
    intro x hx
    simp only [hgo, List.mem_cons] at hx
    rcases hx with rfl | hx
    · exact ⟨Int.emod_nonneg _ (by omega), Int.emod_lt_of_pos _ hp⟩
    · exact hgo_Dg hp t c os fs as o x hx

theorem hstep_get {p : Int} {fs as os : List Int} {c : Int} (h : os.length = fs.length) (h' : os.length = as.length) {j : Nat} (hj : j < os.length) :
    vl (hstep p fs as c os) j = ((if j = 0 then 0 else vl os (j - 1)) + (p - vl os (os.length - 1)) * vl fs j + c * vl as j) % p := hgo_get _ _ _ _ _ _ _ h h' j hj

theorem emod_dvd (x p : Int) : p ∣ x % p - x := by
  have h := Int.emod_add_mul_ediv x p
  exact ⟨-(x / p), by rw [Int.mul_neg]; omega⟩

theorem hstep_Q {p : Int} {m : Nat} {fs as os : List Int} {c : Int} (h0 : os.length = m) (h : fs.length = m) (h' : as.length = m) :
    Q m p (vl (hstep p fs as c os)) (fun j => T m (vl fs) (vl os) j + c * vl as j) := fun j hj => by
  rw [hstep_get (by omega) (by omega) (by omega), h0]
  have h1 := emod_dvd ((if j = 0 then 0 else vl os (j - 1)) + (p - vl os (m - 1)) * vl fs j + c * vl as j) p
  have h2 : p ∣ p * vl fs j := Int.dvd_mul_right _ _
  have := Int.dvd_add h1 h2
  simp only [T]
  generalize (if j = 0 then 0 else vl os (j - 1)) = s at *
  generalize (s + (p - vl os (m - 1)) * vl fs j + c * vl as j) % p = z at *
  rwa [show z - (s + (p - vl os (m - 1)) * vl fs j + c * vl as j) + p * vl fs j = z - (s - vl os (m - 1) * vl fs j + c * vl as j) by grind] at this

/-- Horner's rule. -/
def horner (p : Int) (fs as : List Int) (z : List Int) (bs : List Int) : List Int := bs.foldr (fun c os => hstep p fs as c os) z

theorem horner_length {p : Int} {m : Nat} {fs as z : List Int} (hz : z.length = m) (h : fs.length = m) (h' : as.length = m) : ∀ bs, (horner p fs as z bs).length = m
  | [] => hz
  | b :: bs => by
    have := horner_length (p := p) hz h h' bs
    show (hstep p fs as b (horner p fs as z bs)).length = m
    rw [hstep_length (by omega) (by omega), this]

theorem horner_Dg {p : Int} (hp : 0 < p) {fs as z : List Int} (hz : Dg p z) : ∀ bs, Dg p (horner p fs as z bs)
  | [] => hz
  | b :: bs => by
    show Dg p (hstep p fs as b (horner p fs as z bs))
    exact hgo_Dg hp _ _ _ _ _ _

theorem vl_zeros (n j : Nat) : vl (List.replicate n 0) j = 0 := by
  simp only [vl, List.getD, List.getElem?_replicate]
  split <;> rfl

theorem Dg_zeros {p : Int} (hp : 0 < p) (n : Nat) : Dg p (List.replicate n 0) := by
  intro x hx
  have := List.eq_of_mem_replicate hx
  omega

theorem horner_Q {p : Int} {m : Nat} (hm : 0 < m) {fs as : List Int} (h : fs.length = m) (h' : as.length = m) : ∀ bs : List Int,
    Q m p (vl (horner p fs as (List.replicate m 0) bs)) (fun j => S bs.length (fun i => vl bs i * Tn m (vl fs) i (vl as) j))
  | [] => Q.of fun j _ => by simp [horner, S, vl_zeros]
  | b :: bs => by
    have h1 := hstep_Q (p := p) (c := b) (horner_length (p := p) (fs := fs) (as := as) (z := List.replicate m 0) (by simp) h h' bs) h h'
    have h2 := (Q.T (p := p) (mo := vl fs) hm (horner_Q hm h h' bs)).add (Q.refl fun j => b * vl as j)
    refine (h1.trans h2).trans (Q.of fun j _ => ?_)
    rw [T_S, List.length_cons, S_shift]
    simp only [T_smul]
    have : vl (b :: bs) 0 = b := rfl
    rw [this, Int.add_comm]
    rfl

/-- The modulus as a list of m digits. -/
def Ds.moL (D : Ds) : List Int := if D.m = 1 then [0] else D.mo

/-- What is asked of the modulus. -/
structure Ds.Okm (D : Ds) : Prop extends D.Ok where
  len : D.mo.length = if D.m = 1 then 0 else D.m
  dg : Dg D.p D.mo

theorem Ds.Okm.moL_len {D : Ds} (o : D.Okm) : D.moL.length = D.m := by
  have := o.len
  unfold Ds.moL
  split at this
  · rename_i h; rw [if_pos h, h]; rfl
  · rename_i h; rw [if_neg h, this]

theorem Ds.Okm.moL_vl {D : Ds} (o : D.Okm) : vl D.moL = D.moV := by
  have := o.len
  unfold Ds.moL Ds.moV
  split
  · rename_i h
    rw [if_pos h] at this
    rw [List.eq_nil_of_length_eq_zero this]
    funext j
    cases j <;> simp [vl]
  · rfl

/-- The product by Horner's rule. -/
def Ds.mulL (D : Ds) (as bs : List Int) : List Int := horner D.p D.moL as (List.replicate D.m 0) bs

theorem Ds.Okm.mulL_mul {D : Ds} (o : D.Okm) {x y : Int} (hx : D.R x) (hy : D.R y) : val D.p (D.mulL (digs D.p D.m x) (digs D.p D.m y)) = D.mul x y := by
  have h := horner_Q (p := D.p) o.m1 o.moL_len (digs_length D.p D.m x) (digs D.p D.m y)
  have hl := horner_length (p := D.p) (z := List.replicate D.m 0) (by simp) o.moL_len (digs_length D.p D.m x) (digs D.p D.m y)
  have hd := horner_Dg (p := D.p) (fs := D.moL) (as := digs D.p D.m x) o.p0 (Dg_zeros o.p0 D.m) (digs D.p D.m y)
  unfold Ds.mulL
  rw [← red_vl o.p0 hd hl]
  show num D.p D.m _ = _
  rw [digs_length, o.moL_vl] at h
  rw [num_congr o.p0 h]
  unfold Ds.mul
  rw [Ds.inn_of hx, Ds.inn_of hy]
  rfl

/-! ### The product of polynomials, reduced afterwards -/

section
variable {m : Nat} {mo : V} {p : Int}

/-- The value of the first k coefficients. -/
def evk (m : Nat) (mo : V) (k : Nat) (c : V) : V := fun j => S k (fun i => c i * Tn m mo i (e 0) j)

theorem vl_set (c : List Int) {k : Nat} (v : Int) (i : Nat) (hk : k < c.length) : vl (c.set k v) i = if i = k then v else vl c i := by
  simp only [vl, List.getD, List.getElem?_set]
  by_cases h : k = i
  · subst h; simp [hk]
  · rw [if_neg h, if_neg (Ne.symm h)]

theorem evk_set {k : Nat} {c : List Int} {l : Nat} {v d : Int} (hl : l < k) (hc : l < c.length) (hv : p ∣ v - (vl c l + d)) :
    Q m p (evk m mo k (vl (c.set l v))) (fun j => evk m mo k (vl c) j + d * Tn m mo l (e 0) j) := fun j hj => by
  have h1 : evk m mo k (vl (c.set l v)) j = evk m mo k (vl c) j + (v - vl c l) * Tn m mo l (e 0) j := by
    unfold evk
    have : S k (fun i => (if i = l then (v - vl c l) * Tn m mo l (e 0) j else 0)) = (v - vl c l) * Tn m mo l (e 0) j := by
      rw [S_single hl (fun i _ hi => by rw [if_neg hi])]; simp
    rw [← this, ← S_add]
    refine S_congr fun i _ => ?_
    rw [vl_set c v i hc]
    split
    · rename_i h; subst h; grind
    · omega
  rw [h1]
  have h2 : p ∣ (v - (vl c l + d)) * Tn m mo l (e 0) j := Int.dvd_mul_of_dvd_left hv
  rwa [show (v - (vl c l + d)) * Tn m mo l (e 0) j = evk m mo k (vl c) j + (v - vl c l) * Tn m mo l (e 0) j - (evk m mo k (vl c) j + d * Tn m mo l (e 0) j) by grind] at h2

/-- X to the m. -/
theorem Tn_m (hm : 0 < m) : Q m p (Tn m mo m (e 0)) (fun j => S m (fun i => -mo i * Tn m mo i (e 0) j)) := by
  obtain ⟨n, rfl⟩ : ∃ n, m = n + 1 := ⟨m - 1, by omega⟩
  have h1 : Q (n + 1) p (Tn (n + 1) mo (n + 1) (e 0)) (fun j => -1 * mo j) := by
    refine (Q.T hm (Tn_e (mo := mo) hm (k := n) (by omega))).trans (Q.of fun j hj => ?_)
    simp only [T, e, Nat.add_sub_cancel, if_true]
    split
    · omega
    · rw [if_neg (by omega)]; omega
  refine (h1.trans (decompT (mo := mo) hm _)).trans (Q.of fun j _ => S_congr fun i _ => ?_)
  show -1 * mo i * _ = _
  rw [Int.neg_mul, Int.one_mul]

theorem Tn_top (hm : 0 < m) {i : Nat} (hi : m ≤ i) : Q m p (Tn m mo i (e 0)) (fun j => S m (fun k => -mo k * Tn m mo (i - m + k) (e 0) j)) := by
  have h := Q.Tn (mo := mo) hm (Tn_m (mo := mo) (p := p) hm) (i - m)
  rw [Tn_Tn, show i - m + m = i by omega] at h
  refine h.trans (Q.of fun j _ => ?_)
  rw [Tn_S]
  refine S_congr fun k _ => ?_
  rw [Tn_smul, Tn_Tn]

theorem evk_low (hm : 0 < m) (c : V) : Q m p (evk m mo m c) c := (decompT hm c).symm
end
end Go.FM

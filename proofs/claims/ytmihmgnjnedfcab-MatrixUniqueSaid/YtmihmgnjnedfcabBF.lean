

section
/- Algebra of residues: vectors of m whole numbers, the shift by X modulo a monic polynomial, products, all modulo p. No Go program in it. -/
set_option linter.unusedSimpArgs false
set_option linter.unusedVariables false
namespace Go.FM

def S : Nat → (Nat → Int) → Int
  | 0, _ => 0
  | n + 1, f => S n f + f n

theorem S_congr {f g : Nat → Int} : ∀ {n : Nat}, (∀ i, i < n → f i = g i) → S n f = S n g
  | 0, _ => rfl
  | n + 1, h => by
    simp only [S]
    rw [S_congr (n := n) (fun i hi => h i (by omega)), h n (by omega)]

theorem S_add (f g : Nat → Int) : ∀ n, S n (fun i => f i + g i) = S n f + S n g
  | 0 => rfl
  | n + 1 => by simp only [S, S_add f g n]; omega

theorem S_sub (f g : Nat → Int) : ∀ n, S n (fun i => f i - g i) = S n f - S n g
  | 0 => rfl
  | n + 1 => by simp only [S, S_sub f g n]; omega

theorem S_mul (c : Int) (f : Nat → Int) : ∀ n, S n (fun i => c * f i) = c * S n f
  | 0 => by simp [S]
  | n + 1 => by simp only [S, S_mul c f n, Int.mul_add]

theorem S_mulr (c : Int) (f : Nat → Int) (n : Nat) : S n (fun i => f i * c) = S n f * c := by
  simp only [Int.mul_comm _ c, S_mul]

theorem S_zero : ∀ n, S n (fun _ => 0) = 0
  | 0 => rfl
  | n + 1 => by simp only [S, S_zero n]; rfl

theorem S_comm (f : Nat → Nat → Int) (n : Nat) : ∀ m, S n (fun i => S m (fun j => f i j)) = S m (fun j => S n (fun i => f i j))
  | 0 => by simp only [S, S_zero]
  | m + 1 => by simp only [S, S_add, S_comm f n m]

theorem S_single {f : Nat → Int} {k : Nat} : ∀ {n : Nat}, k < n → (∀ i, i < n → i ≠ k → f i = 0) → S n f = f k
  | 0, h, _ => by omega
  | n + 1, h, hz => by
    simp only [S]
    by_cases e : n = k
    · subst e
      rw [S_congr (g := fun _ => 0) (fun i hi => hz i (by omega) (by omega)), S_zero]; omega
    · rw [S_single (n := n) (by omega) (fun i hi => hz i (by omega)), hz n (by omega) e]; omega

theorem S_dvd {p : Int} {f g : Nat → Int} : ∀ {n : Nat}, (∀ i, i < n → p ∣ f i - g i) → p ∣ S n f - S n g
  | 0, _ => by simp [S]
  | n + 1, h => by
    simp only [S]
    have h1 := S_dvd (n := n) (fun i hi => h i (by omega))
    have h2 := h n (by omega)
    have := Int.dvd_add h1 h2
    rwa [show S n f + f n - (S n g + g n) = S n f - S n g + (f n - g n) by omega]

abbrev V := Nat → Int

section
variable (m : Nat) (mo : V)

/-- Times X. -/
def T (v : V) : V := fun j => (if j = 0 then 0 else v (j - 1)) - v (m - 1) * mo j

def Tn : Nat → V → V
  | 0, v => v
  | n + 1, v => T m mo (Tn n v)

def e (k : Nat) : V := fun j => if j = k then 1 else 0

def mul (a b : V) : V := fun j => S m (fun i => b i * Tn m mo i a j)

theorem T_add (u v : V) : T m mo (fun j => u j + v j) = fun j => T m mo u j + T m mo v j := by
  funext j; simp only [T]; split <;> grind
theorem T_smul (c : Int) (v : V) : T m mo (fun j => c * v j) = fun j => c * T m mo v j := by
  funext j; simp only [T]; split <;> grind
theorem T_zero : T m mo (fun _ => 0) = fun _ => 0 := by
  funext j; simp only [T]; split <;> grind
theorem T_S (f : Nat → V) : ∀ n, T m mo (fun j => S n (fun i => f i j)) = fun j => S n (fun i => T m mo (f i) j)
  | 0 => by simp only [S]; exact T_zero m mo
  | n + 1 => by
    simp only [S]
    rw [T_add, T_S f n]

theorem Tn_add (u v : V) : ∀ n, Tn m mo n (fun j => u j + v j) = fun j => Tn m mo n u j + Tn m mo n v j
  | 0 => rfl
  | n + 1 => by simp only [Tn, Tn_add u v n, T_add]
theorem Tn_smul (c : Int) (v : V) : ∀ n, Tn m mo n (fun j => c * v j) = fun j => c * Tn m mo n v j
  | 0 => rfl
  | n + 1 => by simp only [Tn, Tn_smul c v n, T_smul]
theorem Tn_S (f : Nat → V) (k : Nat) : ∀ n, Tn m mo n (fun j => S k (fun i => f i j)) = fun j => S k (fun i => Tn m mo n (f i) j)
  | 0 => rfl
  | n + 1 => by simp only [Tn, Tn_S f k n, T_S]
theorem Tn_Tn (v : V) (b : Nat) : ∀ a, Tn m mo a (Tn m mo b v) = Tn m mo (a + b) v
  | 0 => by simp only [Tn, Nat.zero_add]
  | a + 1 => by rw [Nat.add_right_comm]; simp only [Tn, Tn_Tn v b a]
theorem Tn_T (v : V) (a : Nat) : Tn m mo a (T m mo v) = T m mo (Tn m mo a v) := Tn_Tn m mo v 1 a

variable (p : Int)

/-- Equal modulo p at the first m places. -/
def Q (u v : V) : Prop := ∀ j, j < m → p ∣ u j - v j

variable {m mo p}

theorem Q.refl (u : V) : Q m p u u := fun j _ => by simp
theorem Q.of {u v : V} (h : ∀ j, j < m → u j = v j) : Q m p u v := fun j hj => by rw [h j hj]; simp
theorem Q.symm {u v : V} (h : Q m p u v) : Q m p v u := fun j hj => by
  have := Int.dvd_neg.2 (h j hj)
  rwa [show -(u j - v j) = v j - u j by omega] at this
theorem Q.trans {u v w : V} (h : Q m p u v) (h' : Q m p v w) : Q m p u w := fun j hj => by
  have := Int.dvd_add (h j hj) (h' j hj)
  rwa [show u j - v j + (v j - w j) = u j - w j by omega] at this
theorem Q.add {u v u' v' : V} (h : Q m p u v) (h' : Q m p u' v') : Q m p (fun j => u j + u' j) (fun j => v j + v' j) := fun j hj => by
  have := Int.dvd_add (h j hj) (h' j hj)
  show p ∣ u j + u' j - (v j + v' j)
  rwa [show u j - v j + (u' j - v' j) = u j + u' j - (v j + v' j) by omega] at this
theorem Q.smul {u v : V} (c : Int) (h : Q m p u v) : Q m p (fun j => c * u j) (fun j => c * v j) := fun j hj => by
  show p ∣ c * u j - c * v j
  rw [← Int.mul_sub]
  exact Int.dvd_mul_of_dvd_right (h j hj)

theorem Q.T (hm : 0 < m) {u v : V} (h : Q m p u v) : Q m p (FM.T m mo u) (FM.T m mo v) := fun j hj => by
  have h1 := h (m - 1) (by omega)
  have h2 : p ∣ (u (m - 1) - v (m - 1)) * mo j := Int.dvd_mul_of_dvd_left h1
  simp only [FM.T]
  split
  · have := Int.dvd_neg.2 h2
    rwa [show -((u (m - 1) - v (m - 1)) * mo j) = 0 - u (m - 1) * mo j - (0 - v (m - 1) * mo j) by grind] at this
  · have h3 := h (j - 1) (by omega)
    have := Int.dvd_sub h3 h2
    rwa [show u (j - 1) - v (j - 1) - (u (m - 1) - v (m - 1)) * mo j = u (j - 1) - u (m - 1) * mo j - (v (j - 1) - v (m - 1) * mo j) by grind] at this

theorem Q.Tn (hm : 0 < m) {u v : V} (h : Q m p u v) : ∀ n, Q m p (FM.Tn m mo n u) (FM.Tn m mo n v)
  | 0 => h
  | n + 1 => Q.T hm (Q.Tn hm h n)

theorem Q.mul (hm : 0 < m) {a a' b b' : V} (h : Q m p a a') (h' : Q m p b b') : Q m p (FM.mul m mo a b) (FM.mul m mo a' b') := fun j hj => by
  unfold FM.mul
  refine S_dvd fun i hi => ?_
  have h1 := h' i hi
  have h2 := Q.Tn (mo := mo) hm h i j hj
  have h3 : p ∣ (b i - b' i) * FM.Tn m mo i a j := Int.dvd_mul_of_dvd_left h1
  have h4 : p ∣ b' i * (FM.Tn m mo i a j - FM.Tn m mo i a' j) := Int.dvd_mul_of_dvd_right h2
  have := Int.dvd_add h3 h4
  rwa [show (b i - b' i) * FM.Tn m mo i a j + b' i * (FM.Tn m mo i a j - FM.Tn m mo i a' j) = b i * FM.Tn m mo i a j - b' i * FM.Tn m mo i a' j by grind] at this

theorem T_e {k : Nat} (hk : k + 1 < m) : Q m p (T m mo (e k)) (e (k + 1)) := Q.of fun j hj => by
  simp only [T, e]
  rw [if_neg (by omega : ¬ m - 1 = k)]
  by_cases h0 : j = 0
  · subst h0; simp
  · by_cases h1 : j = k + 1
    · subst h1; simp
    · rw [if_neg h0, if_neg (by omega), if_neg h1]; simp

theorem Tn_e (hm : 0 < m) : ∀ {k : Nat}, k < m → Q m p (Tn m mo k (e 0)) (e k)
  | 0, _ => Q.refl _
  | k + 1, hk => (Q.T hm (Tn_e hm (k := k) (by omega))).trans (T_e hk)

theorem decomp (v : V) : Q m p v (fun j => S m (fun i => v i * e i j)) := Q.of fun j hj => by
  rw [S_single hj (fun i _ hi => by simp [e, Ne.symm hi])]
  simp [e]

theorem S_Q {n : Nat} {f g : Nat → V} (h : ∀ i, i < n → Q m p (f i) (g i)) : Q m p (fun j => S n (fun i => f i j)) (fun j => S n (fun i => g i j)) :=
  fun j hj => S_dvd fun i hi => h i hi j hj

/-- A vector is the combination of the powers of X. -/
theorem decompT (hm : 0 < m) (v : V) : Q m p v (fun j => S m (fun i => v i * Tn m mo i (e 0) j)) :=
  (decomp v).trans (S_Q (f := fun i j => v i * e i j) fun i hi => ((Tn_e hm hi).symm).smul (v i))

theorem mul_e (hm : 0 < m) (a b : V) : Q m p (mul m mo a b) (fun j => S m (fun i => S m (fun k => b i * a k * Tn m mo (i + k) (e 0) j))) := by
  have h := Q.mul (mo := mo) hm (decompT (mo := mo) (p := p) hm a) (Q.refl b)
  refine h.trans (Q.of fun j hj => ?_)
  unfold mul
  refine S_congr fun i hi => ?_
  rw [Tn_S, ← S_mul]
  refine S_congr fun k hk => ?_
  rw [Tn_smul, Tn_Tn, Int.mul_assoc]

theorem mul_comm (hm : 0 < m) (a b : V) : Q m p (mul m mo a b) (mul m mo b a) := by
  refine (mul_e hm a b).trans (Q.trans (Q.of fun j hj => ?_) (mul_e hm b a).symm)
  rw [S_comm]
  refine S_congr fun i hi => S_congr fun k hk => ?_
  rw [Nat.add_comm k i, Int.mul_comm (b k)]

theorem mul_addl (a a' b : V) : mul m mo (fun j => a j + a' j) b = fun j => mul m mo a b j + mul m mo a' b j := by
  funext j
  unfold mul
  rw [← S_add]
  refine S_congr fun i hi => ?_
  rw [Tn_add, Int.mul_add]

theorem mul_smull (c : Int) (a b : V) : mul m mo (fun j => c * a j) b = fun j => c * mul m mo a b j := by
  funext j
  unfold mul
  rw [← S_mul]
  refine S_congr fun i hi => ?_
  rw [Tn_smul]
  grind

theorem mul_Sl (n : Nat) (f : Nat → V) (b : V) : mul m mo (fun j => S n (fun i => f i j)) b = fun j => S n (fun i => mul m mo (f i) b j) := by
  funext j
  unfold mul
  rw [S_comm]
  refine S_congr fun i hi => ?_
  rw [Tn_S, S_mul]

theorem Tn_mul (a b : V) (n : Nat) : Tn m mo n (mul m mo a b) = mul m mo (Tn m mo n a) b := by
  unfold mul
  rw [Tn_S]
  funext j
  refine S_congr fun i hi => ?_
  rw [Tn_smul, Tn_Tn, Tn_Tn, Nat.add_comm]

theorem mul_right_comm (a b c : V) : mul m mo (mul m mo a b) c = mul m mo (mul m mo a c) b := by
  have h : mul m mo (mul m mo a b) c = fun j => S m (fun k => mul m mo (fun j => c k * Tn m mo k a j) b j) := by
    funext j
    show S m (fun k => c k * Tn m mo k (mul m mo a b) j) = _
    refine S_congr fun k hk => ?_
    rw [Tn_mul, mul_smull]
  rw [h]
  rw [← mul_Sl]
  rfl

theorem mul_assoc (hm : 0 < m) (a b c : V) : Q m p (mul m mo (mul m mo a b) c) (mul m mo a (mul m mo b c)) := by
  have h1 := Q.mul (mo := mo) hm (mul_comm (mo := mo) (p := p) hm a b) (Q.refl c)
  rw [mul_right_comm b a c] at h1
  exact h1.trans (mul_comm hm _ _)

theorem mul_one (hm : 0 < m) (a : V) : Q m p (mul m mo a (e 0)) a := Q.of fun j hj => by
  unfold mul
  rw [S_single hm (fun i _ hi => by simp [e, hi])]
  simp [e, Tn]

theorem mul_zero (hm : 0 < m) (a : V) : Q m p (mul m mo a (fun _ => 0)) (fun _ => 0) := Q.of fun j hj => by
  unfold mul
  rw [S_congr (g := fun _ => 0) (fun i _ => by simp), S_zero]

end
end Go.FM
end

section
/- Numbers and their digits; sums, products of elements, powers. No Go program in it. -/
set_option linter.unusedSimpArgs false
set_option linter.unusedVariables false
namespace Go.FM

/-- The m lowest digits. -/
def digs (p : Int) : Nat → Int → List Int
  | 0, _ => []
  | m + 1, x => x % p :: digs p m (x / p)

def val (p : Int) : List Int → Int
  | [] => 0
  | d :: l => d + p * val p l

/-- A list as a vector. -/
def vl (l : List Int) : V := fun j => l.getD j 0

/-- Its entries are residues. -/
def Dg (p : Int) (l : List Int) : Prop := ∀ x ∈ l, 0 ≤ x ∧ x < p

theorem digs_length (p : Int) : ∀ m x, (digs p m x).length = m
  | 0, _ => rfl
  | m + 1, x => by simp [digs, digs_length p m]

theorem digs_Dg {p : Int} (hp : 0 < p) : ∀ m x, Dg p (digs p m x)
  | 0, _ => by simp [digs, Dg]
  | m + 1, x => by
    intro y hy
    rcases List.mem_cons.1 hy with rfl | hy
    · exact ⟨Int.emod_nonneg _ (by omega), Int.emod_lt_of_pos _ hp⟩
    · exact digs_Dg hp m _ y hy

theorem val_digs {p : Int} (hp : 0 < p) : ∀ {m : Nat} {x : Int}, 0 ≤ x → x < p ^ m → val p (digs p m x) = x
  | 0, x, h0, h1 => by simp at h1; simp [digs, val]; omega
  | m + 1, x, h0, h1 => by
    have h2 : x / p < p ^ m := Int.ediv_lt_of_lt_mul hp (by rw [Int.pow_succ] at h1; exact h1)
    have h3 : 0 ≤ x / p := Int.ediv_nonneg h0 (by omega)
    simp only [digs, val, val_digs hp h3 h2]
    have := Int.emod_add_mul_ediv x p
    omega

theorem val_range {p : Int} (hp : 0 < p) : ∀ {l : List Int}, Dg p l → 0 ≤ val p l ∧ val p l < p ^ l.length
  | [], _ => by simp [val]
  | d :: l, h => by
    have h1 := h d (by simp)
    have h2 := val_range hp (l := l) fun x hx => h x (by simp [hx])
    simp only [val, List.length_cons, Int.pow_succ]
    have h3 : 0 ≤ p * val p l := Int.mul_nonneg (by omega) h2.1
    have h4 : p * (val p l + 1) ≤ p * p ^ l.length := Int.mul_le_mul_of_nonneg_left (by omega) (by omega)
    rw [Int.mul_comm (p ^ l.length)]
    rw [Int.mul_add] at h4
    omega

theorem digs_val {p : Int} (hp : 0 < p) : ∀ {l : List Int}, Dg p l → digs p l.length (val p l) = l
  | [], _ => rfl
  | d :: l, h => by
    have h1 := h d (by simp)
    have h2 := digs_val hp (l := l) fun x hx => h x (by simp [hx])
    simp only [val, List.length_cons, digs]
    rw [Int.add_mul_emod_self_left, Int.emod_eq_of_lt h1.1 h1.2, Int.add_mul_ediv_left _ _ (by omega), Int.ediv_eq_zero_of_lt h1.1 h1.2, Int.zero_add, h2]

theorem vl_range {p : Int} (hp : 0 < p) {l : List Int} (h : Dg p l) (j : Nat) : 0 ≤ vl l j ∧ vl l j < p := by
  unfold vl
  simp only [List.getD]
  by_cases hj : j < l.length
  · rw [List.getElem?_eq_getElem hj]
    exact h _ (List.getElem_mem hj)
  · rw [List.getElem?_eq_none (by omega)]
    exact ⟨by simp, by simpa using hp⟩

theorem dvd_eq {p x y : Int} (hx : 0 ≤ x ∧ x < p) (hy : 0 ≤ y ∧ y < p) (h : p ∣ x - y) : x = y := by
  have h1 := Int.emod_emod_of_dvd
  have := (Int.emod_eq_emod_iff_emod_sub_eq_zero).2 (Int.emod_eq_zero_of_dvd h)
  rwa [Int.emod_eq_of_lt hx.1 hx.2, Int.emod_eq_of_lt hy.1 hy.2] at this

theorem vl_ext {l l' : List Int} (hl : l.length = l'.length) (h : ∀ j, j < l.length → vl l j = vl l' j) : l = l' := by
  refine List.ext_getElem hl fun j h1 h2 => ?_
  have := h j h1
  simpa [vl, List.getD, h1, h2] using this

theorem Q_list {p : Int} (hp : 0 < p) {l l' : List Int} (h : Dg p l) (h' : Dg p l') {m : Nat} (hl : l.length = m) (hl' : l'.length = m) (hq : Q m p (vl l) (vl l')) : l = l' := by
  refine vl_ext (by omega) fun j hj => ?_
  exact dvd_eq (vl_range hp h j) (vl_range hp h' j) (hq j (by omega))

/-- The vector's residues. -/
def red (p : Int) (m : Nat) (v : V) : List Int := (List.range m).map fun j => v j % p

theorem red_length (p : Int) (m : Nat) (v : V) : (red p m v).length = m := by simp [red]
theorem red_Dg {p : Int} (hp : 0 < p) (m : Nat) (v : V) : Dg p (red p m v) := by
  intro x hx
  simp only [red, List.mem_map] at hx
  obtain ⟨j, _, rfl⟩ := hx
  exact ⟨Int.emod_nonneg _ (by omega), Int.emod_lt_of_pos _ hp⟩
theorem vl_red {p : Int} {m : Nat} {v : V} {j : Nat} (hj : j < m) : vl (red p m v) j = v j % p := by
  simp [vl, red, List.getD, hj]
theorem red_Q (p : Int) (m : Nat) (v : V) : Q m p (vl (red p m v)) v := fun j hj => by
  rw [vl_red hj]
  have h := Int.emod_add_mul_ediv (v j) p
  exact ⟨-(v j / p), by rw [Int.mul_neg]; omega⟩
theorem red_congr {p : Int} (hp : 0 < p) {m : Nat} {u v : V} (h : Q m p u v) : red p m u = red p m v :=
  Q_list hp (red_Dg hp m u) (red_Dg hp m v) (red_length ..) (red_length ..) ((red_Q p m u).trans (h.trans (red_Q p m v).symm))
theorem red_vl {p : Int} (hp : 0 < p) {l : List Int} (h : Dg p l) {m : Nat} (hl : l.length = m) : red p m (vl l) = l :=
  Q_list hp (red_Dg hp m _) h (red_length ..) hl (red_Q p m _)

/-- The number of a vector, the vector of a number. -/
def num (p : Int) (m : Nat) (v : V) : Int := val p (red p m v)
def vec (p : Int) (m : Nat) (x : Int) : V := vl (digs p m x)

theorem num_range {p : Int} (hp : 0 < p) (m : Nat) (v : V) : 0 ≤ num p m v ∧ num p m v < p ^ m := by
  have := val_range hp (red_Dg hp m v)
  rwa [red_length] at this
theorem digs_num {p : Int} (hp : 0 < p) (m : Nat) (v : V) : digs p m (num p m v) = red p m v := by
  have := digs_val hp (red_Dg hp m v)
  rwa [red_length] at this
theorem vec_num {p : Int} (hp : 0 < p) (m : Nat) (v : V) : Q m p (vec p m (num p m v)) v := by
  unfold vec
  rw [digs_num hp]
  exact red_Q p m v
theorem num_vec {p : Int} (hp : 0 < p) {m : Nat} {x : Int} (h0 : 0 ≤ x) (h1 : x < p ^ m) : num p m (vec p m x) = x := by
  unfold num vec
  rw [red_vl hp (digs_Dg hp m x) (digs_length ..), val_digs hp h0 h1]
theorem num_congr {p : Int} (hp : 0 < p) {m : Nat} {u v : V} (h : Q m p u v) : num p m u = num p m v := by
  unfold num
  rw [red_congr hp h]
theorem num_inj {p : Int} (hp : 0 < p) {m : Nat} {u v : V} (h : num p m u = num p m v) : Q m p u v :=
  (vec_num hp m u).symm.trans (h ▸ vec_num hp m v)

/-- A description of residues. -/
structure Ds where
  p : Nat
  m : Nat
  mo : List Int

namespace Ds
def pI (D : Ds) : Int := D.p
def q (D : Ds) : Nat := D.p ^ D.m
def R (D : Ds) (x : Int) : Prop := 0 ≤ x ∧ x < D.q
def moV (D : Ds) : V := vl D.mo
def ve (D : Ds) (x : Int) : V := vec D.p D.m x
def nu (D : Ds) (v : V) : Int := num D.p D.m v
def inn (D : Ds) (x : Int) : Int := if 0 ≤ x ∧ x < D.q then x else 0
def add (D : Ds) (x y : Int) : Int := D.nu fun j => D.ve (D.inn x) j + D.ve (D.inn y) j
def neg (D : Ds) (x : Int) : Int := D.nu fun j => -1 * D.ve (D.inn x) j
def mul (D : Ds) (x y : Int) : Int := D.nu (FM.mul D.m D.moV (D.ve (D.inn x)) (D.ve (D.inn y)))
def sub (D : Ds) (x y : Int) : Int := D.add x (D.neg y)
/-- What is asked of the numbers only. -/
structure Ok (D : Ds) : Prop where
  p2 : 2 ≤ D.p
  m1 : 1 ≤ D.m

variable {D : Ds}
theorem qI (D : Ds) : (D.q : Int) = (D.p : Int) ^ D.m := by simp [q]
theorem Ok.p0 (o : D.Ok) : (0 : Int) < D.p := by have := o.p2; omega
theorem Ok.q2 (o : D.Ok) : 2 ≤ D.q := by
  have h1 := o.p2
  have h2 := o.m1
  unfold q
  exact Nat.le_trans h1 (Nat.le_self_pow (by omega) _)
theorem Ok.q0 (o : D.Ok) : D.R 0 := ⟨by omega, by have := o.q2; omega⟩
theorem Ok.q1 (o : D.Ok) : D.R 1 := ⟨by omega, by have := o.q2; omega⟩
theorem Ok.nuR (o : D.Ok) (v : V) : D.R (D.nu v) := by
  have := num_range o.p0 D.m v
  unfold R nu
  rw [qI]; exact this
theorem Ok.innR (o : D.Ok) (x : Int) : D.R (D.inn x) := by
  unfold inn
  split
  · assumption
  · exact o.q0
theorem inn_of {x : Int} (h : D.R x) : D.inn x = x := if_pos h
theorem Ok.nuve (o : D.Ok) {x : Int} (h : D.R x) : D.nu (D.ve x) = x := by
  have h2 := h.2
  rw [qI] at h2
  exact num_vec o.p0 h.1 h2
theorem Ok.venu (o : D.Ok) (v : V) : Q D.m D.p (D.ve (D.nu v)) v := vec_num o.p0 D.m v
theorem Ok.nucongr (o : D.Ok) {u v : V} (h : Q D.m D.p u v) : D.nu u = D.nu v := num_congr o.p0 h
theorem Ok.nuinj (o : D.Ok) {u v : V} (h : D.nu u = D.nu v) : Q D.m D.p u v := num_inj o.p0 h
theorem Ok.ext (o : D.Ok) {x y : Int} (hx : D.R x) (hy : D.R y) (h : Q D.m D.p (D.ve x) (D.ve y)) : x = y := by
  rw [← o.nuve hx, ← o.nuve hy]; exact o.nucongr h

theorem Ok.addR (o : D.Ok) (x y : Int) : D.R (D.add x y) := o.nuR _
theorem Ok.negR (o : D.Ok) (x : Int) : D.R (D.neg x) := o.nuR _
theorem Ok.mulR (o : D.Ok) (x y : Int) : D.R (D.mul x y) := o.nuR _
theorem Ok.subR (o : D.Ok) (x y : Int) : D.R (D.sub x y) := o.nuR _
theorem Ok.inn_add (o : D.Ok) (x y : Int) : D.inn (D.add x y) = D.add x y := inn_of (o.addR x y)
theorem Ok.inn_mul (o : D.Ok) (x y : Int) : D.inn (D.mul x y) = D.mul x y := inn_of (o.mulR x y)
theorem Ok.inn_neg (o : D.Ok) (x : Int) : D.inn (D.neg x) = D.neg x := inn_of (o.negR x)
theorem Ok.inn_inn (o : D.Ok) (x : Int) : D.inn (D.inn x) = D.inn x := inn_of (o.innR x)

theorem ve_zero (D : Ds) (j : Nat) : D.ve 0 j = 0 := by
  have : ∀ m, ∀ j, vl (digs D.p m 0) j = 0 := by
    intro m
    induction m with
    | zero => intro j; simp [digs, vl]
    | succ m ih =>
      intro j
      cases j with
      | zero => simp [digs, vl]
      | succ j => have := ih j; simpa [digs, vl] using this
  exact this D.m j
theorem Ok.ve_one (o : D.Ok) : D.ve 1 = e 0 := by
  have hp := o.p2
  have hm := o.m1
  funext j
  obtain ⟨m, hm'⟩ : ∃ m, D.m = m + 1 := ⟨D.m - 1, by omega⟩
  unfold ve vec
  rw [hm']
  simp only [digs]
  have h1 : (1 : Int) % D.p = 1 := Int.emod_eq_of_lt (by omega) (by omega)
  have h2 : (1 : Int) / D.p = 0 := Int.ediv_eq_zero_of_lt (by omega) (by omega)
  rw [h1, h2]
  cases j with
  | zero => simp [vl, e]
  | succ j =>
    have : ∀ m, ∀ j, vl (digs D.p m 0) j = 0 := by
      intro m
      induction m with
      | zero => intro j; simp [digs, vl]
      | succ m ih =>
        intro j
        cases j with
        | zero => simp [digs, vl]
        | succ j => have := ih j; simpa [digs, vl] using this
    have := this m j
    simp only [vl, List.getD_cons_succ, e] at this ⊢
    rw [this]; simp

theorem Ok.add_comm (o : D.Ok) (x y : Int) : D.add x y = D.add y x := by
  unfold add
  congr 1; funext j; omega
theorem Ok.add_assoc (o : D.Ok) (x y z : Int) : D.add (D.add x y) z = D.add x (D.add y z) := by
  unfold add
  rw [inn_of (o.nuR _), inn_of (o.nuR _)]
  refine o.nucongr ?_
  have h1 := Q.add (o.venu fun j => D.ve (D.inn x) j + D.ve (D.inn y) j) (Q.refl (D.ve (D.inn z)))
  have h2 := Q.add (Q.refl (D.ve (D.inn x))) (o.venu fun j => D.ve (D.inn y) j + D.ve (D.inn z) j)
  refine h1.trans (Q.trans (Q.of fun j _ => ?_) h2.symm)
  omega
theorem Ok.zero_add (o : D.Ok) (x : Int) : D.add 0 x = D.inn x := by
  unfold add
  rw [inn_of o.q0]
  simp only [ve_zero, Int.zero_add]
  exact o.nuve (o.innR x)
theorem Ok.add_zero (o : D.Ok) (x : Int) : D.add x 0 = D.inn x := by rw [o.add_comm, o.zero_add]
theorem Ok.add_neg (o : D.Ok) (x : Int) : D.add x (D.neg x) = 0 := by
  unfold add neg
  rw [inn_of (o.nuR _)]
  have h := Q.add (Q.refl (D.ve (D.inn x))) (o.venu fun j => -1 * D.ve (D.inn x) j)
  rw [o.nucongr h, ← o.nuve o.q0]
  congr 1
  funext j
  rw [ve_zero]; omega

theorem Ok.mul_comm (o : D.Ok) (x y : Int) : D.mul x y = D.mul y x := o.nucongr (FM.mul_comm o.m1 _ _)
theorem Ok.mul_assoc (o : D.Ok) (x y z : Int) : D.mul (D.mul x y) z = D.mul x (D.mul y z) := by
  unfold mul
  rw [inn_of (o.nuR _), inn_of (o.nuR _)]
  refine o.nucongr ?_
  have h1 := Q.mul (mo := D.moV) o.m1 (o.venu (FM.mul D.m D.moV (D.ve (D.inn x)) (D.ve (D.inn y)))) (Q.refl (D.ve (D.inn z)))
  have h2 := Q.mul (mo := D.moV) o.m1 (Q.refl (D.ve (D.inn x))) (o.venu (FM.mul D.m D.moV (D.ve (D.inn y)) (D.ve (D.inn z))))
  exact h1.trans ((FM.mul_assoc o.m1 _ _ _).trans h2.symm)
theorem Ok.mul_one (o : D.Ok) (x : Int) : D.mul x 1 = D.inn x := by
  unfold mul
  rw [inn_of o.q1, o.ve_one, o.nucongr (FM.mul_one o.m1 _), o.nuve (o.innR x)]
theorem Ok.one_mul (o : D.Ok) (x : Int) : D.mul 1 x = D.inn x := by rw [o.mul_comm, o.mul_one]
theorem Ok.mul_zero (o : D.Ok) (x : Int) : D.mul x 0 = 0 := by
  unfold mul
  rw [inn_of o.q0]
  have : D.ve 0 = fun _ => 0 := funext (ve_zero D)
  rw [this, o.nucongr (FM.mul_zero o.m1 _), ← this, o.nuve o.q0]
theorem Ok.zero_mul (o : D.Ok) (x : Int) : D.mul 0 x = 0 := by rw [o.mul_comm, o.mul_zero]
theorem Ok.add_mul (o : D.Ok) (x y z : Int) : D.mul (D.add x y) z = D.add (D.mul x z) (D.mul y z) := by
  unfold mul add
  rw [inn_of (o.nuR _), inn_of (o.nuR _), inn_of (o.nuR _)]
  refine o.nucongr ?_
  have h1 := Q.mul (mo := D.moV) o.m1 (o.venu fun j => D.ve (D.inn x) j + D.ve (D.inn y) j) (Q.refl (D.ve (D.inn z)))
  rw [FM.mul_addl] at h1
  exact h1.trans (Q.add (o.venu _) (o.venu _)).symm
theorem Ok.mul_add (o : D.Ok) (x y z : Int) : D.mul x (D.add y z) = D.add (D.mul x y) (D.mul x z) := by
  rw [o.mul_comm, o.add_mul, o.mul_comm y, o.mul_comm z]
theorem inn_zero (o : D.Ok) : D.inn 0 = 0 := inn_of o.q0
theorem Ok.mul_inn (o : D.Ok) (x y : Int) : D.mul x (D.inn y) = D.mul x y := by unfold mul; rw [o.inn_inn]
theorem Ok.inn_mul' (o : D.Ok) (x y : Int) : D.mul (D.inn x) y = D.mul x y := by unfold mul; rw [o.inn_inn]
theorem Ok.add_inn (o : D.Ok) (x y : Int) : D.add x (D.inn y) = D.add x y := by unfold add; rw [o.inn_inn]
theorem Ok.inn_add' (o : D.Ok) (x y : Int) : D.add (D.inn x) y = D.add x y := by unfold add; rw [o.inn_inn]

/-- Powers. -/
def pw (D : Ds) (x : Int) : Nat → Int
  | 0 => 1
  | n + 1 => D.mul (D.pw x n) x
theorem Ok.pwR (o : D.Ok) (x : Int) : ∀ n, D.R (D.pw x n)
  | 0 => o.q1
  | n + 1 => o.mulR _ _
theorem Ok.pw_add (o : D.Ok) (x : Int) (a : Nat) : ∀ b, D.pw x (a + b) = D.mul (D.pw x a) (D.pw x b)
  | 0 => by simp only [Nat.add_zero, pw]; rw [o.mul_one, inn_of (o.pwR x a)]
  | b + 1 => by rw [← Nat.add_assoc]; simp only [pw]; rw [o.pw_add x a b, o.mul_assoc]
theorem Ok.pw_one (o : D.Ok) {x : Int} : D.pw x 1 = D.inn x := by simp only [pw]; rw [o.one_mul]

/-- x generates the nonzero residues. -/
structure Gen (D : Ds) (x : Int) : Prop where
  r : D.R x
  top : D.pw x (D.q - 1) = 1
  lt : ∀ n, 0 < n → n < D.q - 1 → D.pw x n ≠ 1

theorem pw_mul_q (o : D.Ok) {x : Int} {k : Nat} (ht : D.pw x k = 1) : ∀ n, D.pw x (k * n) = 1
  | 0 => rfl
  | n + 1 => by
    rw [Nat.mul_succ, o.pw_add, pw_mul_q o ht n, ht, o.mul_one, inn_of o.q1]

theorem Gen.mod (o : D.Ok) {x : Int} (g : D.Gen x) (n : Nat) : D.pw x n = D.pw x (n % (D.q - 1)) := by
  conv => lhs; rw [← Nat.div_add_mod n (D.q - 1)]
  rw [o.pw_add, pw_mul_q o g.top, o.one_mul, inn_of (o.pwR _ _)]

theorem Gen.ne0 (o : D.Ok) {x : Int} (g : D.Gen x) (n : Nat) : D.pw x n ≠ 0 := by
  intro h
  have h1 := pw_mul_q o g.top n
  have : D.pw x ((D.q - 1) * n) = 0 := by
    have h2 := o.q2
    have hle : n ≤ (D.q - 1) * n := Nat.le_mul_of_pos_left n (by omega)
    rw [show (D.q - 1) * n = n + ((D.q - 1) * n - n) by omega, o.pw_add, h, o.zero_mul]
  omega

theorem Gen.inj (o : D.Ok) {x : Int} (g : D.Gen x) {i j : Nat} (hi : i < D.q - 1) (hj : j < D.q - 1) (h : D.pw x i = D.pw x j) : i = j := by
  have aux : ∀ i j : Nat, i < j → j < D.q - 1 → D.pw x i = D.pw x j → False := by
    intro i j hij hj h
    have h1 : D.pw x (j - i) = 1 := by
      have e1 : D.pw x (i + (D.q - 1 - i)) = 1 := by rw [show i + (D.q - 1 - i) = D.q - 1 by omega]; exact g.top
      have e2 : D.pw x (j + (D.q - 1 - i)) = D.pw x (j - i) := by
        rw [show j + (D.q - 1 - i) = (j - i) + (D.q - 1) by omega, o.pw_add, g.top, o.mul_one, inn_of (o.pwR _ _)]
      rw [← e2, o.pw_add, ← h, ← o.pw_add, e1]
    exact g.lt (j - i) (by omega) (by omega) h1
  rcases Nat.lt_trichotomy i j with h1 | h1 | h1
  · exact (aux i j h1 hj h).elim
  · exact h1
  · exact (aux j i h1 hi h.symm).elim

/-- Without zero there are q - 1 residues: a list of that many different ones has them all. -/
theorem all_of_nodup : ∀ (n : Nat) (l : List Int), l.Nodup → (∀ x ∈ l, 0 < x ∧ x ≤ n) → n ≤ l.length → ∀ y : Int, 0 < y → y ≤ n → y ∈ l
  | 0, l, _, _, _, y, h1, h2 => by omega
  | n + 1, l, hd, hr, hl, y, h1, h2 => by
    have hm : ((n + 1 : Nat) : Int) ∈ l := by
      apply Classical.byContradiction
      intro hc
      have h3 : ∀ x ∈ l, 0 < x ∧ x ≤ (n : Int) := fun x hx => by
        have := hr x hx
        have : x ≠ ((n + 1 : Nat) : Int) := fun he => hc (he ▸ hx)
        omega
      cases l with
      | nil => simp at hl
      | cons a l =>
        have h4 := all_of_nodup n l (List.nodup_cons.1 hd).2 (fun x hx => h3 x (by simp [hx])) (by simp at hl; omega) a (h3 a (by simp)).1 (h3 a (by simp)).2
        exact (List.nodup_cons.1 hd).1 h4
    by_cases hy : y = ((n + 1 : Nat) : Int)
    · rw [hy]; exact hm
    · have h5 := all_of_nodup n (l.erase ((n + 1 : Nat) : Int)) (hd.erase _) (fun x hx => by
        have h6 := List.mem_of_mem_erase hx
        have h7 := hr x h6
        have h8 : x ≠ ((n + 1 : Nat) : Int) := fun he => by
          rw [he] at hx
          exact (List.Nodup.not_mem_erase hd) hx
        omega) (by rw [List.length_erase_of_mem hm]; omega) y h1 (by omega)
      exact List.mem_of_mem_erase h5

theorem Gen.all (o : D.Ok) {x : Int} (g : D.Gen x) {y : Int} (hy : D.R y) (h0 : y ≠ 0) : ∃ n, n < D.q - 1 ∧ D.pw x n = y := by
  have h2 := o.q2
  have := all_of_nodup (D.q - 1) ((List.range (D.q - 1)).map (D.pw x)) (by
      rw [List.Nodup, List.pairwise_map]
      refine List.Pairwise.imp_of_mem (R := fun a b => a ≠ b) ?_ List.nodup_range
      intro a b ha hb hab h
      exact hab (g.inj o (List.mem_range.1 ha) (List.mem_range.1 hb) h)) (by
      intro z hz
      obtain ⟨n, hn, rfl⟩ := List.mem_map.1 hz
      have h3 := o.pwR x n
      have h4 := g.ne0 o n
      unfold R at h3
      omega) (by simp) y (by have := hy.1; omega) (by have := hy.2; omega)
  obtain ⟨n, hn, rfl⟩ := List.mem_map.1 this
  exact ⟨n, List.mem_range.1 hn, rfl⟩

/-- No zero divisors where there is a generator. -/
theorem Gen.dom (o : D.Ok) {x : Int} (g : D.Gen x) {y z : Int} (hy : D.R y) (hz : D.R z) (hy0 : y ≠ 0) (hz0 : z ≠ 0) : D.mul y z ≠ 0 := by
  obtain ⟨a, _, rfl⟩ := g.all o hy hy0
  obtain ⟨b, _, rfl⟩ := g.all o hz hz0
  rw [← o.pw_add]
  exact g.ne0 o _
end Ds
end Go.FM
end

section
/- How the two programs multiply: Horner's rule over digits, and the product of polynomials that is reduced afterwards. No Go program in it. -/
set_option linter.unusedSimpArgs false
set_option linter.unusedVariables false
namespace Go.FM

theorem S_shift (f : Nat → Int) : ∀ n, S (n + 1) f = f 0 + S n (fun i => f (i + 1))
  | 0 => by simp [S]
  | n + 1 => by rw [S, S_shift f n]; simp only [S]; omega

/-- One step of Horner's rule; t is what the top digit asks of the modulus. -/
def hgo (p t c : Int) : Int → List Int → List Int → List Int → List Int
  | prev, o :: os, f :: fs, a :: as => ((prev + t * f + c * a) % p) :: hgo p t c o os fs as
  | _, _, _, _ => []

theorem hgo_length (p t c : Int) : ∀ (os fs as : List Int) (prev : Int), os.length = fs.length → os.length = as.length → (hgo p t c prev os fs as).length = os.length
  | [], _, _, _, _, _ => by simp [hgo]
  | o :: os, [], as, _, h, _ => by simp at h
  | o :: os, f :: fs, [], _, _, h => by simp at h
  | o :: os, f :: fs, a :: as, prev, h, h' => by
    simp only [List.length_cons, Nat.add_right_cancel_iff] at h h'
    simp only [hgo, List.length_cons, hgo_length p t c os fs as o h h']

theorem hgo_get (p t c : Int) : ∀ (os fs as : List Int) (prev : Int), os.length = fs.length → os.length = as.length → ∀ j, j < os.length →
    vl (hgo p t c prev os fs as) j = ((if j = 0 then prev else vl os (j - 1)) + t * vl fs j + c * vl as j) % p
  | [], _, _, _, _, _, j, hj => by simp at hj
  | o :: os, [], as, _, h, _, _, _ => by simp at h
  | o :: os, f :: fs, [], _, _, h, _, _ => by simp at h
  | o :: os, f :: fs, a :: as, prev, h, h', j, hj => by
    simp only [List.length_cons, Nat.add_right_cancel_iff] at h h'
    cases j with
    | zero => simp [hgo, vl]
    | succ j =>
      have := hgo_get p t c os fs as o h h' j (by simp at hj; omega)
      simp only [vl, hgo, List.getD_cons_succ] at this ⊢
      rw [this]
      cases j with
      | zero => simp
      | succ j => simp

def hstep (p : Int) (fs as : List Int) (c : Int) (os : List Int) : List Int := hgo p (p - vl os (os.length - 1)) c 0 os fs as

theorem hstep_length {p : Int} {fs as os : List Int} {c : Int} (h : os.length = fs.length) (h' : os.length = as.length) : (hstep p fs as c os).length = os.length := hgo_length _ _ _ _ _ _ _ h h'

theorem hgo_Dg {p : Int} (hp : 0 < p) (t c : Int) : ∀ (os fs as : List Int) (prev : Int), Dg p (hgo p t c prev os fs as)
  | [], _, _, _ => by simp [hgo, Dg]
  | o :: os, [], as, _ => by simp [hgo, Dg]
  | o :: os, f :: fs, [], _ => by simp [hgo, Dg]
  | o :: os, f :: fs, a :: as, prev => by
    intro x hx
    simp only [hgo, List.mem_cons] at hx
    rcases hx with rfl | hx
    · exact ⟨Int.emod_nonneg _ (by omega), Int.emod_lt_of_pos _ hp⟩
    · exact hgo_Dg hp t c os fs as o x hx

theorem hstep_get {p : Int} {fs as os : List Int} {c : Int} (h : os.length = fs.length) (h' : os.length = as.length) {j : Nat} (hj : j < os.length) :
    vl (hstep p fs as c os) j = ((if j = 0 then 0 else vl os (j - 1)) + (p - vl os (os.length - 1)) * vl fs j + c * vl as j) % p := hgo_get _ _ _ _ _ _ _ h h' j hj

theorem emod_dvd (x p : Int) : p ∣ x % p - x := by
  have h := Int.emod_add_mul_ediv x p
  exact ⟨-(x / p), by rw [Int.mul_neg]; omega⟩

theorem hstep_Q {p : Int} {m : Nat} {fs as os : List Int} {c : Int} (h0 : os.length = m) (h : fs.length = m) (h' : as.length = m) :
    Q m p (vl (hstep p fs as c os)) (fun j => T m (vl fs) (vl os) j + c * vl as j) := fun j hj => by
  rw [hstep_get (by omega) (by omega) (by omega), h0]
  have h1 := emod_dvd ((if j = 0 then 0 else vl os (j - 1)) + (p - vl os (m - 1)) * vl fs j + c * vl as j) p
  have h2 : p ∣ p * vl fs j := Int.dvd_mul_right _ _
  have := Int.dvd_add h1 h2
  simp only [T]
  generalize (if j = 0 then 0 else vl os (j - 1)) = s at *
  generalize (s + (p - vl os (m - 1)) * vl fs j + c * vl as j) % p = z at *
  rwa [show z - (s + (p - vl os (m - 1)) * vl fs j + c * vl as j) + p * vl fs j = z - (s - vl os (m - 1) * vl fs j + c * vl as j) by grind] at this

/-- Horner's rule. -/
def horner (p : Int) (fs as : List Int) (z : List Int) (bs : List Int) : List Int := bs.foldr (fun c os => hstep p fs as c os) z

theorem horner_length {p : Int} {m : Nat} {fs as z : List Int} (hz : z.length = m) (h : fs.length = m) (h' : as.length = m) : ∀ bs, (horner p fs as z bs).length = m
  | [] => hz
  | b :: bs => by
    have := horner_length (p := p) hz h h' bs
    show (hstep p fs as b (horner p fs as z bs)).length = m
    rw [hstep_length (by omega) (by omega), this]

theorem horner_Dg {p : Int} (hp : 0 < p) {fs as z : List Int} (hz : Dg p z) : ∀ bs, Dg p (horner p fs as z bs)
  | [] => hz
  | b :: bs => by
    show Dg p (hstep p fs as b (horner p fs as z bs))
    exact hgo_Dg hp _ _ _ _ _ _

theorem vl_zeros (n j : Nat) : vl (List.replicate n 0) j = 0 := by
  simp only [vl, List.getD, List.getElem?_replicate]
  split <;> rfl

theorem Dg_zeros {p : Int} (hp : 0 < p) (n : Nat) : Dg p (List.replicate n 0) := by
  intro x hx
  have := List.eq_of_mem_replicate hx
  omega

theorem horner_Q {p : Int} {m : Nat} (hm : 0 < m) {fs as : List Int} (h : fs.length = m) (h' : as.length = m) : ∀ bs : List Int,
    Q m p (vl (horner p fs as (List.replicate m 0) bs)) (fun j => S bs.length (fun i => vl bs i * Tn m (vl fs) i (vl as) j))
  | [] => Q.of fun j _ => by simp [horner, S, vl_zeros]
  | b :: bs => by
    have h1 := hstep_Q (p := p) (c := b) (horner_length (p := p) (fs := fs) (as := as) (z := List.replicate m 0) (by simp) h h' bs) h h'
    have h2 := (Q.T (p := p) (mo := vl fs) hm (horner_Q hm h h' bs)).add (Q.refl fun j => b * vl as j)
    refine (h1.trans h2).trans (Q.of fun j _ => ?_)
    rw [T_S, List.length_cons, S_shift]
    simp only [T_smul]
    have : vl (b :: bs) 0 = b := rfl
    rw [this, Int.add_comm]
    rfl

/-- The modulus as a list of m digits. -/
def Ds.moL (D : Ds) : List Int := if D.m = 1 then [0] else D.mo

/-- What is asked of the modulus. -/
structure Ds.Okm (D : Ds) : Prop extends D.Ok where
  len : D.mo.length = if D.m = 1 then 0 else D.m
  dg : Dg D.p D.mo

theorem Ds.Okm.moL_len {D : Ds} (o : D.Okm) : D.moL.length = D.m := by
  have := o.len
  unfold Ds.moL
  split at this
  · rename_i h; rw [if_pos h, h]; rfl
  · rename_i h; rw [if_neg h, this]

theorem Ds.Okm.moL_vl {D : Ds} (o : D.Okm) : vl D.moL = D.moV := by
  have := o.len
  unfold Ds.moL Ds.moV
  split
  · rename_i h
    rw [if_pos h] at this
    rw [List.eq_nil_of_length_eq_zero this]
    funext j
    cases j <;> simp [vl]
  · rfl

/-- The product by Horner's rule. -/
def Ds.mulL (D : Ds) (as bs : List Int) : List Int := horner D.p D.moL as (List.replicate D.m 0) bs

theorem Ds.Okm.mulL_mul {D : Ds} (o : D.Okm) {x y : Int} (hx : D.R x) (hy : D.R y) : val D.p (D.mulL (digs D.p D.m x) (digs D.p D.m y)) = D.mul x y := by
  have h := horner_Q (p := D.p) o.m1 o.moL_len (digs_length D.p D.m x) (digs D.p D.m y)
  have hl := horner_length (p := D.p) (z := List.replicate D.m 0) (by simp) o.moL_len (digs_length D.p D.m x) (digs D.p D.m y)
  have hd := horner_Dg (p := D.p) (fs := D.moL) (as := digs D.p D.m x) o.p0 (Dg_zeros o.p0 D.m) (digs D.p D.m y)
  unfold Ds.mulL
  rw [← red_vl o.p0 hd hl]
  show num D.p D.m _ = _
  rw [digs_length, o.moL_vl] at h
  rw [num_congr o.p0 h]
  unfold Ds.mul
  rw [Ds.inn_of hx, Ds.inn_of hy]
  rfl

/-! ### The product of polynomials, reduced afterwards -/

section
variable {m : Nat} {mo : V} {p : Int}

/-- The value of the first k coefficients. -/
def evk (m : Nat) (mo : V) (k : Nat) (c : V) : V := fun j => S k (fun i => c i * Tn m mo i (e 0) j)

theorem vl_set (c : List Int) {k : Nat} (v : Int) (i : Nat) (hk : k < c.length) : vl (c.set k v) i = if i = k then v else vl c i := by
  simp only [vl, List.getD, List.getElem?_set]
  by_cases h : k = i
  · subst h; simp [hk]
  · rw [if_neg h, if_neg (Ne.symm h)]

theorem evk_set {k : Nat} {c : List Int} {l : Nat} {v d : Int} (hl : l < k) (hc : l < c.length) (hv : p ∣ v - (vl c l + d)) :
    Q m p (evk m mo k (vl (c.set l v))) (fun j => evk m mo k (vl c) j + d * Tn m mo l (e 0) j) := fun j hj => by
  have h1 : evk m mo k (vl (c.set l v)) j = evk m mo k (vl c) j + (v - vl c l) * Tn m mo l (e 0) j := by
    unfold evk
    have : S k (fun i => (if i = l then (v - vl c l) * Tn m mo l (e 0) j else 0)) = (v - vl c l) * Tn m mo l (e 0) j := by
      rw [S_single hl (fun i _ hi => by rw [if_neg hi])]; simp
    rw [← this, ← S_add]
    refine S_congr fun i _ => ?_
    rw [vl_set c v i hc]
    split
    · rename_i h; subst h; grind
    · omega
  rw [h1]
  have h2 : p ∣ (v - (vl c l + d)) * Tn m mo l (e 0) j := Int.dvd_mul_of_dvd_left hv
  rwa [show (v - (vl c l + d)) * Tn m mo l (e 0) j = evk m mo k (vl c) j + (v - vl c l) * Tn m mo l (e 0) j - (evk m mo k (vl c) j + d * Tn m mo l (e 0) j) by grind] at h2

/-- X to the m. -/
theorem Tn_m (hm : 0 < m) : Q m p (Tn m mo m (e 0)) (fun j => S m (fun i => -mo i * Tn m mo i (e 0) j)) := by
  obtain ⟨n, rfl⟩ : ∃ n, m = n + 1 := ⟨m - 1, by omega⟩
  have h1 : Q (n + 1) p (Tn (n + 1) mo (n + 1) (e 0)) (fun j => -1 * mo j) := by
    refine (Q.T hm (Tn_e (mo := mo) hm (k := n) (by omega))).trans (Q.of fun j hj => ?_)
    simp only [T, e, Nat.add_sub_cancel, if_true]
    split
    · omega
    · rw [if_neg (by omega)]; omega
  refine (h1.trans (decompT (mo := mo) hm _)).trans (Q.of fun j _ => S_congr fun i _ => ?_)
  show -1 * mo i * _ = _
  rw [Int.neg_mul, Int.one_mul]

theorem Tn_top (hm : 0 < m) {i : Nat} (hi : m ≤ i) : Q m p (Tn m mo i (e 0)) (fun j => S m (fun k => -mo k * Tn m mo (i - m + k) (e 0) j)) := by
  have h := Q.Tn (mo := mo) hm (Tn_m (mo := mo) (p := p) hm) (i - m)
  rw [Tn_Tn, show i - m + m = i by omega] at h
  refine h.trans (Q.of fun j _ => ?_)
  rw [Tn_S]
  refine S_congr fun k _ => ?_
  rw [Tn_smul, Tn_Tn]

theorem evk_low (hm : 0 < m) (c : V) : Q m p (evk m mo m c) c := (decompT hm c).symm
end
end Go.FM
end

section
/- The same sums in natural numbers, for the kernel to run. No Go program in it. -/
set_option linter.unusedSimpArgs false
set_option linter.unusedVariables false
namespace Go.FM

abbrev up (l : List Nat) : List Int := l.map Int.ofNat

/-- With the recursors themselves: the kernel runs it faster. -/
noncomputable def hgoN (p t c prev : Nat) (os fs as : List Nat) : List Nat :=
  List.rec (motive := fun _ => Nat → List Nat → List Nat → List Nat) (fun _ _ _ => [])
    (fun o _ ih prev fs as => List.rec (motive := fun _ => List Nat) [] (fun f fs _ => List.rec (motive := fun _ => List Nat) []
      (fun a as _ => Nat.mod (Nat.add (Nat.add prev (Nat.mul t f)) (Nat.mul c a)) p :: ih o fs as) as) fs) os prev fs as
theorem hgoN_nil (p t c prev : Nat) (fs as : List Nat) : hgoN p t c prev [] fs as = [] := rfl
theorem hgoN_nil2 (p t c prev o : Nat) (os as : List Nat) : hgoN p t c prev (o :: os) [] as = [] := rfl
theorem hgoN_nil3 (p t c prev o f : Nat) (os fs : List Nat) : hgoN p t c prev (o :: os) (f :: fs) [] = [] := rfl
theorem hgoN_cons (p t c prev o f a : Nat) (os fs as : List Nat) : hgoN p t c prev (o :: os) (f :: fs) (a :: as) = ((prev + t * f + c * a) % p) :: hgoN p t c o os fs as := rfl

theorem hgo_up (p t c : Nat) : ∀ (os fs as : List Nat) (prev : Nat), hgo p t c prev (up os) (up fs) (up as) = up (hgoN p t c prev os fs as)
  | [], fs, as, prev => by simp [hgo, hgoN_nil]
  | o :: os, [], as, prev => by simp [hgo, hgoN_nil2]
  | o :: os, f :: fs, [], prev => by simp [hgo, hgoN_nil3]
  | o :: os, f :: fs, a :: as, prev => by
    have := hgo_up p t c os fs as o
    simp only [up, List.map_cons, hgo, hgoN_cons, Int.ofNat_eq_natCast] at this ⊢
    rw [this]
    simp

def topN : List Nat → Nat
  | [] => 0
  | [x] => x
  | _ :: l => topN l

theorem topN_vl : ∀ (os : List Nat), vl (up os) ((up os).length - 1) = topN os
  | [] => by simp [vl, topN]
  | [x] => by simp [vl, topN]
  | x :: y :: l => by
    have := topN_vl (y :: l)
    simp only [vl, up, List.map_cons, List.length_cons, Nat.add_sub_cancel, List.getD_cons_succ, topN] at this ⊢
    rw [← this]

/-- Have a number worked out first. -/
noncomputable def frcA {α : Type} (x : Nat) (k : Nat → α) : α := Nat.rec (motive := fun _ => α) (k 0) (fun n _ => k (Nat.succ n)) x
theorem frcA_eq {α : Type} (x : Nat) (k : Nat → α) : frcA x k = k x := by cases x <;> rfl
noncomputable def frcM : List Nat → (List Nat → List Nat) → List Nat
  | [], k => k []
  | x :: l, k => frcA x fun y => frcM l fun t => k (y :: t)
theorem frcM_eq : ∀ (l : List Nat) (k : List Nat → List Nat), frcM l k = k l
  | [], k => rfl
  | x :: l, k => by simp only [frcM, frcA_eq, frcM_eq l]
noncomputable def hstepN (p : Nat) (fs as : List Nat) (c : Nat) (os : List Nat) : List Nat := frcA (p - topN os) fun t => hgoN p t c 0 os fs as
theorem hstepN_eq (p : Nat) (fs as : List Nat) (c : Nat) (os : List Nat) : hstepN p fs as c os = hgoN p (p - topN os) c 0 os fs as := frcA_eq _ _

def DgN (p : Nat) (l : List Nat) : Prop := ∀ x ∈ l, x < p
theorem DgN.up {p : Nat} {l : List Nat} (h : DgN p l) : Dg p (FM.up l) := by
  intro x hx
  obtain ⟨n, hn, rfl⟩ := List.mem_map.1 hx
  have := h n hn
  exact ⟨Int.natCast_nonneg n, Int.ofNat_lt.2 this⟩
theorem topN_le {p : Nat} : ∀ {os : List Nat}, DgN p os → topN os ≤ p
  | [], _ => by simp [topN]
  | [x], h => by have := h x (by simp); simp only [topN]; omega
  | x :: y :: l, h => topN_le (os := y :: l) fun z hz => h z (by simp at hz ⊢; exact .inr hz)
theorem hgoN_DgN {p : Nat} (hp : 0 < p) (t c : Nat) : ∀ (os fs as : List Nat) (prev : Nat), DgN p (hgoN p t c prev os fs as)
  | [], fs, as, prev => by simp [hgoN_nil, DgN]
  | o :: os, [], as, prev => by simp [hgoN_nil2, DgN]
  | o :: os, f :: fs, [], prev => by simp [hgoN_nil3, DgN]
  | o :: os, f :: fs, a :: as, prev => by
    intro x hx
    simp only [hgoN_cons, List.mem_cons] at hx
    rcases hx with rfl | hx
    · exact Nat.mod_lt _ hp
    · exact hgoN_DgN hp t c os fs as o x hx
theorem hstep_up {p : Nat} (fs as : List Nat) (c : Nat) {os : List Nat} (h : DgN p os) : hstep p (up fs) (up as) c (up os) = up (hstepN p fs as c os) := by
  rw [hstepN_eq]
  unfold hstep
  rw [topN_vl, ← hgo_up]
  have := topN_le h
  congr 1
  omega

noncomputable def hornerN (p : Nat) (fs as z : List Nat) : List Nat → List Nat
  | [] => z
  | c :: bs => frcM (hornerN p fs as z bs) fun os => hstepN p fs as c os
theorem hornerN_cons (p : Nat) (fs as z : List Nat) (c : Nat) (bs : List Nat) : hornerN p fs as z (c :: bs) = hstepN p fs as c (hornerN p fs as z bs) := by
  simp only [hornerN, frcM_eq]
theorem hornerN_DgN {p : Nat} (hp : 0 < p) {fs as z : List Nat} (hz : DgN p z) : ∀ bs, DgN p (hornerN p fs as z bs)
  | [] => hz
  | c :: bs => by
    rw [hornerN_cons, hstepN_eq]
    exact hgoN_DgN hp _ _ _ _ _ _
theorem horner_up {p : Nat} (hp : 0 < p) {fs as z : List Nat} (hz : DgN p z) : ∀ bs, horner p (up fs) (up as) (up z) (up bs) = up (hornerN p fs as z bs)
  | [] => rfl
  | c :: bs => by
    show hstep p (up fs) (up as) c (horner p (up fs) (up as) (up z) (up bs)) = _
    rw [horner_up hp hz bs, hstep_up _ _ _ (hornerN_DgN hp hz bs), hornerN_cons]

def digsN (p : Nat) : Nat → Nat → List Nat
  | 0, _ => []
  | m + 1, x => x % p :: digsN p m (x / p)
theorem digs_up (p : Nat) : ∀ m x : Nat, digs p m x = up (digsN p m x)
  | 0, _ => rfl
  | m + 1, x => by
    have := digs_up p m (x / p)
    simp only [digs, digsN, up, List.map_cons] at this ⊢
    rw [← this]
    simp
theorem digsN_length (p : Nat) : ∀ m x, (digsN p m x).length = m
  | 0, _ => rfl
  | m + 1, x => by simp [digsN, digsN_length p m]
theorem digsN_DgN {p : Nat} (hp : 0 < p) : ∀ m x, DgN p (digsN p m x)
  | 0, _ => by simp [digsN, DgN]
  | m + 1, x => by
    intro y hy
    rcases List.mem_cons.1 hy with rfl | hy
    · exact Nat.mod_lt _ hp
    · exact digsN_DgN hp m _ y hy

/-- Without the zeros at the top. -/
def trimN : List Nat → List Nat
  | [] => []
  | x :: l => match trimN l, x with
    | [], 0 => []
    | t, x => x :: t
theorem trimN_vl : ∀ (l : List Nat) (j : Nat), vl (up (trimN l)) j = vl (up l) j
  | [], j => rfl
  | x :: l, j => by
    have ih := trimN_vl l
    unfold trimN
    split
    · rename_i h
      rw [h] at ih
      cases j with
      | zero => simp [vl]
      | succ j => have := ih j; simp [vl] at this ⊢; exact this
    · cases j with
      | zero => simp [vl]
      | succ j => have := ih j; simp [vl] at this ⊢; exact this
theorem trimN_le : ∀ (l : List Nat), (trimN l).length ≤ l.length
  | [] => by simp [trimN]
  | x :: l => by
    have ih := trimN_le l
    unfold trimN
    split
    · simp
    · simp only [List.length_cons]; omega

def allz : List Nat → Bool
  | [] => true
  | x :: l => Nat.beq x 0 && allz l
def isOne : List Nat → Bool
  | [] => false
  | x :: l => Nat.beq x 1 && allz l
theorem allz_iff : ∀ {l : List Nat}, allz l = true ↔ ∀ j, vl (up l) j = 0
  | [] => by simp [allz, vl]
  | x :: l => by
    simp only [allz, Bool.and_eq_true, Nat.beq_eq, allz_iff (l := l)]
    constructor
    · rintro ⟨rfl, h⟩ j
      cases j with
      | zero => rfl
      | succ j => simpa [vl] using h j
    · intro h
      refine ⟨by have := h 0; simp [vl] at this; omega, fun j => ?_⟩
      simpa [vl] using h (j + 1)
theorem isOne_iff : ∀ {l : List Nat}, l ≠ [] → (isOne l = true ↔ ∀ j, vl (up l) j = e 0 j)
  | [], h => by simp at h
  | x :: l, _ => by
    simp only [isOne, Bool.and_eq_true, Nat.beq_eq, allz_iff (l := l)]
    constructor
    · rintro ⟨rfl, h⟩ j
      cases j with
      | zero => rfl
      | succ j => simpa [vl, e] using h j
    · intro h
      refine ⟨by have := h 0; simp [vl, e] at this; omega, fun j => ?_⟩
      simpa [vl, e] using h (j + 1)

noncomputable def frcN (x : Nat) (k : Nat → Bool) : Bool := Nat.rec (k 0) (fun n _ => k (Nat.succ n)) x
theorem frcN_eq (x : Nat) (k : Nat → Bool) : frcN x k = k x := by cases x <;> rfl
noncomputable def frcL : List Nat → (List Nat → Bool) → Bool
  | [], k => k []
  | x :: l, k => frcN x fun y => frcL l fun t => k (y :: t)
theorem frcL_eq : ∀ (l : List Nat) (k : List Nat → Bool), frcL l k = k l
  | [], k => rfl
  | x :: l, k => by simp only [frcL, frcN_eq, frcL_eq l]

/-- The powers of an element are 1 at the end and not before. -/
noncomputable def chkG (p : Nat) (fs z xs : List Nat) : Nat → List Nat → Bool
  | 0, y => isOne y
  | n + 1, y => match isOne y with
    | true => false
    | false => frcL (hornerN p fs y z xs) fun y' => chkG p fs z xs n y'

namespace Ds
variable {D : Ds}

theorem Okm.moN (o : D.Okm) : ∃ fs, DgN D.p fs ∧ up fs = D.moL := by
  have key : ∀ l : List Int, Dg D.p l → ∃ fs, DgN D.p fs ∧ up fs = l := by
    intro l
    induction l with
    | nil => exact fun _ => ⟨[], by simp [DgN], rfl⟩
    | cons x l ih =>
      intro h
      obtain ⟨fs, h1, h2⟩ := ih fun y hy => h y (by simp [hy])
      have hx := h x (by simp)
      refine ⟨x.toNat :: fs, ?_, ?_⟩
      · intro y hy
        rcases List.mem_cons.1 hy with rfl | hy
        · omega
        · exact h1 y hy
      · simp only [up, List.map_cons] at h2 ⊢
        rw [h2]
        congr 1
        have := hx.1
        simp only [Int.ofNat_eq_natCast]
        omega
  refine key _ ?_
  unfold moL
  split
  · intro x hx; simp at hx; have := o.p2; omega
  · exact o.dg

/-- Products in natural numbers. -/
theorem Okm.mulN (o : D.Okm) {fs : List Nat} (hf : up fs = D.moL) {as : List Nat} (ha : DgN D.p as) (hal : as.length = D.m) {bs : List Nat} (hb : bs.length ≤ D.m) (hbd : DgN D.p bs) {x y : Int} (hx : D.R x) (hy : D.R y)
    (hxa : digs D.p D.m x = up as) (hyb : ∀ j, D.ve y j = vl (up bs) j) :
    digs D.p D.m (D.mul x y) = up (hornerN D.p fs as (List.replicate D.m 0) bs) := by
  have hp := o.p2
  have hz : DgN D.p (List.replicate D.m 0) := by intro x hx; have := List.eq_of_mem_replicate hx; omega
  rw [← horner_up (by omega) hz, hf]
  have hl : (up fs).length = D.m := by rw [hf]; exact o.moL_len
  have e1 : up (List.replicate D.m 0) = List.replicate D.m 0 := by simp [up]
  rw [e1]
  have hln : (horner (D.p : Int) D.moL (up as) (List.replicate D.m 0) (up bs)).length = D.m := horner_length (by simp) o.moL_len (by simp [hal]) _
  have hdg : Dg D.p (horner (D.p : Int) D.moL (up as) (List.replicate D.m 0) (up bs)) := horner_Dg o.p0 (Dg_zeros o.p0 _) _
  refine Q_list o.p0 (digs_Dg o.p0 _ _) hdg (digs_length ..) hln ?_
  have h1 := horner_Q (p := D.p) o.m1 o.moL_len (as := up as) (by simp [hal]) (up bs)
  refine Q.trans ?_ h1.symm
  show Q D.m D.p (D.ve (D.mul x y)) _
  unfold mul
  refine (o.venu _).trans (Q.of fun j hj => ?_)
  rw [inn_of hx, inn_of hy, o.moL_vl]
  unfold FM.mul
  have hxv : D.ve x = vl (up as) := by show vl (digs D.p D.m x) = _; rw [hxa]
  rw [hxv]
  have : ∀ n k, (up bs).length ≤ n → k = n → S k (fun i => D.ve y i * FM.Tn D.m D.moV i (vl (up as)) j) = S (up bs).length (fun i => vl (up bs) i * FM.Tn D.m D.moV i (vl (up as)) j) := by
    intro n k hn hk
    subst hk
    induction k with
    | zero => rw [show (up bs).length = 0 by omega]; rfl
    | succ k ih =>
      by_cases hle : (up bs).length ≤ k
      · rw [S, ih hle, hyb k]
        have : vl (up bs) k = 0 := by simp only [vl, List.getD]; rw [List.getElem?_eq_none hle]; rfl
        rw [this]; omega
      · rw [show (up bs).length = k + 1 by omega]
        exact S_congr fun i _ => by rw [hyb]
  exact this D.m D.m (by simp [hb]) rfl

theorem ve_eq_one (o : D.Okm) {as : List Nat} (hal : as.length = D.m) {x : Int} (hx : D.R x) (hxa : digs D.p D.m x = up as) : isOne as = true ↔ x = 1 := by
  have hm := o.m1
  rw [isOne_iff (by intro h; rw [h] at hal; simp at hal; omega)]
  constructor
  · intro h
    refine o.ext hx o.q1 (Q.of fun j _ => ?_)
    rw [o.ve_one, ← h j, ← hxa]; rfl
  · rintro rfl j
    rw [← hxa, ← o.ve_one]; rfl

theorem chkG_sound (o : D.Okm) {fs : List Nat} (hf : up fs = D.moL) {x : Int} (hx : D.R x) {xs : List Nat} (hxl : xs.length ≤ D.m) (hxd : DgN D.p xs) (hxv : ∀ j, D.ve x j = vl (up xs) j) :
    ∀ (n k : Nat) (y : List Nat), y.length = D.m → DgN D.p y → digs D.p D.m (D.pw x k) = up y → chkG D.p fs (List.replicate D.m 0) xs n y = true →
      D.pw x (k + n) = 1 ∧ ∀ i, k ≤ i → i < k + n → D.pw x i ≠ 1
  | 0, k, y, hyl, hyd, hy, h => by
    unfold chkG at h
    exact ⟨(ve_eq_one o hyl (o.pwR x k) hy).1 h, fun i _ _ => by omega⟩
  | n + 1, k, y, hyl, hyd, hy, h => by
    unfold chkG at h
    split at h
    · cases h
    · rename_i h1
      rw [frcL_eq] at h
      have hp := o.p2
      have h2 := o.mulN hf hyd hyl hxl hxd (o.pwR x k) hx hy hxv
      have hz : DgN D.p (List.replicate D.m 0) := by intro x hx; have := List.eq_of_mem_replicate hx; omega
      have h3 := chkG_sound o hf hx hxl hxd hxv n (k + 1) _ (by
        have := congrArg List.length h2
        rw [digs_length] at this
        simp at this; omega) (hornerN_DgN (by omega) hz xs) h2 h
      refine ⟨by rw [← h3.1]; congr 1; omega, fun i hi1 hi2 => ?_⟩
      by_cases hik : i = k
      · subst hik
        intro hc
        rw [(ve_eq_one o hyl (o.pwR x i) hy).2 hc] at h1
        cases h1
      · exact h3.2 i (by omega) (by omega)

/-- The check of a generator. -/
theorem gen_of (o : D.Okm) {fs : List Nat} (hf : up fs = D.moL) {x : Nat} (hx : x < D.q)
    (h : chkG D.p fs (List.replicate D.m 0) (trimN (digsN D.p D.m x)) (D.q - 2) (digsN D.p D.m x) = true) : D.Gen x := by
  have hp := o.p2
  have hR : D.R x := ⟨by omega, by omega⟩
  have hd := digsN_DgN (p := D.p) (by omega) D.m x
  have hle := trimN_le (digsN D.p D.m x)
  rw [digsN_length] at hle
  have htd : DgN D.p (trimN (digsN D.p D.m x)) := by
    intro y hy
    obtain ⟨j, hj, rfl⟩ := List.mem_iff_getElem.1 hy
    have h1 := trimN_vl (digsN D.p D.m x) j
    have h2 := vl_range o.p0 hd.up j
    rw [← h1] at h2
    simp [vl, List.getD, hj] at h2
    omega
  have h1 := chkG_sound o hf hR hle htd (fun j => by rw [trimN_vl, ← digs_up]; rfl) (D.q - 2) 1 (digsN D.p D.m x) (digsN_length ..) hd (by rw [o.toOk.pw_one, inn_of hR, digs_up]) h
  have h2 := o.q2
  refine ⟨hR, ?_, fun n h3 h4 => h1.2 n h3 (by omega)⟩
  rw [← h1.1]; congr 1; omega

/-- The check of two zero divisors. -/
theorem div_of (o : D.Okm) {fs : List Nat} (hf : up fs = D.moL) {x y : Nat} (hx : x < D.q) (hy : y < D.q) (h : allz (hornerN D.p fs (digsN D.p D.m x) (List.replicate D.m 0) (digsN D.p D.m y)) = true) : D.mul x y = 0 := by
  have hp := o.p2
  have hRx : D.R x := ⟨by omega, by omega⟩
  have hRy : D.R y := ⟨by omega, by omega⟩
  have h2 := o.mulN hf (digsN_DgN (by omega) D.m x) (digsN_length ..) (by rw [digsN_length]; omega) (digsN_DgN (by omega) D.m y) hRx hRy (digs_up ..) (fun j => by rw [← digs_up]; rfl)
  rw [allz_iff] at h
  refine o.ext (o.mulR _ _) o.q0 (Q.of fun j _ => ?_)
  rw [ve_zero, ← h j, ← h2]; rfl
end Ds
end Go.FM
end

section
/- Division of polynomials as the reference does it, and the table of all residue rings of at most 256 elements. No Go program in it. -/
set_option linter.unusedSimpArgs false
set_option linter.unusedVariables false
set_option maxRecDepth 100000
namespace Go.FM

/-- One step of the division by a monic polynomial with the low coefficients low: the coefficient i goes. -/
def dstep (p : Int) (low : List Int) (i : Nat) (r : V) : V := fun k =>
  if k = i then 0 else if i - low.length ≤ k ∧ k < i then (r k + (p - r i) * vl low (k - (i - low.length))) % p else r k

def drun (p : Int) (low : List Int) : Nat → V → V
  | 0, r => r
  | n + 1, r => drun p low n (dstep p low (low.length + n) r)

/-- low divides mo. -/
def Dv (p : Int) (low mo : List Int) : Prop := ∀ k, drun p low (mo.length + 1 - low.length) (vl (mo ++ [1])) k = 0

/-- No monic divisor of a degree from 1 to half of its own. -/
def Irr (p : Int) (mo : List Int) : Prop := ∀ d v : Nat, 1 ≤ d → 2 * d ≤ mo.length → (v : Int) < p ^ d → ¬ Dv p (digs p d v) mo

noncomputable def addm (p t : Nat) (ls rs : List Nat) : List Nat :=
  List.rec (motive := fun _ => List Nat → List Nat) (fun rs => rs)
    (fun l _ ih rs => List.rec (motive := fun _ => List Nat) [] (fun r rs _ => Nat.mod (Nat.add r (Nat.mul t l)) p :: ih rs) rs) ls rs
theorem addm_nil (p t : Nat) (rs : List Nat) : addm p t [] rs = rs := rfl
theorem addm_nil2 (p t l : Nat) (ls : List Nat) : addm p t (l :: ls) [] = [] := rfl
theorem addm_cons (p t l r : Nat) (ls rs : List Nat) : addm p t (l :: ls) (r :: rs) = ((r + t * l) % p) :: addm p t ls rs := rfl

theorem addm_length (p t : Nat) : ∀ ls rs, (addm p t ls rs).length = rs.length
  | [], rs => by simp [addm_nil]
  | l :: ls, [] => by simp [addm_nil2]
  | l :: ls, r :: rs => by simp [addm_cons, addm_length p t ls rs]

theorem addm_DgN {p : Nat} (hp : 0 < p) (t : Nat) : ∀ ls rs, DgN p rs → DgN p (addm p t ls rs)
  | [], rs, h => by simpa [addm_nil, addm_nil2] using h
  | l :: ls, [], h => by simpa [addm_nil, addm_nil2] using h
  | l :: ls, r :: rs, h => by
    intro x hx
    simp only [addm_cons, List.mem_cons] at hx
    rcases hx with rfl | hx
    · exact Nat.mod_lt _ hp
    · exact addm_DgN hp t ls rs (fun y hy => h y (by simp [hy])) x hx

theorem addm_get (p t : Nat) : ∀ (ls rs : List Nat) (j : Nat), ls.length ≤ rs.length → (addm p t ls rs).getD j 0 = if j < ls.length then (rs.getD j 0 + t * ls.getD j 0) % p else rs.getD j 0
  | [], rs, j, _ => by simp [addm_nil]
  | l :: ls, [], j, h => by simp at h
  | l :: ls, r :: rs, j, h => by
    cases j with
    | zero => simp [addm_cons]
    | succ j => have := addm_get p t ls rs j (by simpa using h); simp [addm_cons] at this ⊢; exact this

/-- The division, top first. -/
noncomputable def divN (p : Nat) (ls : List Nat) : Nat → List Nat → Bool
  | 0, r => allz r
  | n + 1, [] => true
  | n + 1, c :: r => frcL (frcA (p - c) fun t => addm p t ls r) fun r' => divN p ls n r'

theorem divN_iff {p : Nat} (hp : 0 < p) (ls : List Nat) (low : List Int) (hlow : low = up ls.reverse) : ∀ (n : Nat) (cur : List Nat) (r : V), cur.length = ls.length + n → (∀ x ∈ cur, x ≤ p) →
    (∀ k, k < ls.length + n → r k = (cur.getD (ls.length + n - 1 - k) 0 : Nat)) → (∀ k, ls.length + n ≤ k → r k = 0) → (divN p ls n cur = true ↔ ∀ k, drun p low n r k = 0)
  | 0, cur, r, hl, hc, hr, hz => by
    simp only [divN, drun]
    rw [allz_iff]
    constructor
    · intro h k
      by_cases hk : k < ls.length
      · rw [hr k (by omega)]
        have := h (ls.length + 0 - 1 - k)
        simp only [vl, up, List.getD, List.getElem?_map] at this ⊢
        cases hq : cur[ls.length + 0 - 1 - k]? with
        | none => rfl
        | some x => rw [hq] at this; simpa using this
      · exact hz k (by omega)
    · intro h j
      by_cases hj : j < ls.length
      · have h1 := h (ls.length - 1 - j)
        rw [hr _ (by omega), show ls.length + 0 - 1 - (ls.length - 1 - j) = j by omega] at h1
        simp only [vl, up, List.getD, List.getElem?_map] at h1 ⊢
        cases hq : cur[j]? with
        | none => rfl
        | some x => rw [hq] at h1; simpa using h1
      · simp only [vl, List.getD]
        rw [List.getElem?_eq_none (by simp; omega)]; rfl
  | n + 1, [], r, hl, hc, hr, hz => by simp at hl
  | n + 1, c :: cur, r, hl, hc, hr, hz => by
    simp only [divN, frcL_eq, frcA_eq, drun]
    have hll : low.length = ls.length := by rw [hlow]; simp
    have hl' : cur.length = ls.length + n := by simp at hl; omega
    have hrt : r (ls.length + n) = (c : Int) := by
      rw [hr _ (by omega), show ls.length + (n + 1) - 1 - (ls.length + n) = 0 by omega]; rfl
    have hcp := hc c (by simp)
    refine divN_iff hp ls low hlow n _ _ (by rw [addm_length]; exact hl') ?_ ?_ ?_
    · intro x hx
      obtain ⟨j, hj, rfl⟩ := List.mem_iff_getElem.1 hx
      have h1 := addm_get p (p - c) ls cur j (by omega)
      have h2 : (addm p (p - c) ls cur).getD j 0 = (addm p (p - c) ls cur)[j] := by simp [List.getD, hj]
      rw [← h2, h1]
      split
      · exact Nat.le_of_lt (Nat.mod_lt _ hp)
      · rw [addm_length] at hj
        have := hc cur[j] (by simp)
        simpa [List.getD, hj] using this
    · intro k hk
      simp only [dstep]
      rw [if_neg (by omega), hll, addm_get _ _ _ _ _ (by omega)]
      have hrk : r k = ((cur.getD (ls.length + n - 1 - k) 0 : Nat) : Int) := by
        rw [hr k (by omega), show ls.length + (n + 1) - 1 - k = (ls.length + n - 1 - k) + 1 by omega, List.getD_cons_succ]
      by_cases hkn : n ≤ k
      · rw [if_pos (by omega), if_pos (by omega), hrk, hrt]
        have e1 : vl low (k - (ls.length + n - ls.length)) = ((ls.getD (ls.length + n - 1 - k) 0 : Nat) : Int) := by
          rw [hlow]
          simp only [vl, up, List.getD, List.getElem?_map]
          rw [List.getElem?_reverse (by omega), show ls.length - 1 - (k - (ls.length + n - ls.length)) = ls.length + n - 1 - k by omega]
          cases ls[ls.length + n - 1 - k]? <;> rfl
        rw [e1, Int.natCast_emod, Int.natCast_add, Int.natCast_mul, Int.natCast_sub hcp]
      · rw [if_neg (by omega), if_neg (by omega), hrk]
    · intro k hk
      simp only [dstep]
      by_cases hkn : k = low.length + n
      · rw [if_pos hkn]
      · rw [if_neg hkn, if_neg (by omega), hz k (by omega)]

/-- No divisor of degree d among the first n. -/
noncomputable def noDiv (p d m : Nat) (rev : List Nat) : Nat → Bool
  | 0 => true
  | n + 1 => match divN p (digsN p d n).reverse (m + 1 - d) rev with
    | true => false
    | false => noDiv p d m rev n

theorem noDiv_iff {p d m : Nat} {rev : List Nat} : ∀ {n : Nat}, noDiv p d m rev n = true ↔ ∀ v, v < n → divN p (digsN p d v).reverse (m + 1 - d) rev = false
  | 0 => by simp [noDiv]
  | n + 1 => by
    unfold noDiv
    split
    · rename_i h
      constructor
      · intro hh; cases hh
      · intro hh; have := hh n (by omega); rw [h] at this; cases this
    · rename_i h
      rw [noDiv_iff (n := n)]
      constructor
      · intro hh v hv
        by_cases hvn : v = n
        · subst hvn; exact h
        · exact hh v (by omega)
      · exact fun hh v hv => hh v (by omega)

/-- The degrees 1 to n. -/
noncomputable def irrN (p m : Nat) (rev : List Nat) : Nat → Bool
  | 0 => true
  | n + 1 => irrN p m rev n && noDiv p (n + 1) m rev (p ^ (n + 1))

theorem irrN_iff {p m : Nat} {rev : List Nat} : ∀ {n : Nat}, irrN p m rev n = true ↔ ∀ d, 1 ≤ d → d ≤ n → noDiv p d m rev (p ^ d) = true
  | 0 => by simp [irrN]; intros; omega
  | n + 1 => by
    simp only [irrN, Bool.and_eq_true, irrN_iff (n := n)]
    constructor
    · rintro ⟨h2, h1⟩ d hd hdn
      by_cases hd2 : d = n + 1
      · subst hd2; exact h1
      · exact h2 d hd (by omega)
    · exact fun h => ⟨fun d h1 h2 => h d h1 (by omega), h (n + 1) (by omega) (by omega)⟩

theorem Dv_iff {p : Nat} (hp : 0 < p) {mo : List Nat} (hmo : DgN p mo) {d v : Nat} (hd : d ≤ mo.length) (hp2 : 1 < p) : divN p (digsN p d v).reverse (mo.length + 1 - d) (1 :: mo.reverse) = true ↔ Dv p (digs p d v) (up mo) := by
  unfold Dv
  have hl : (digs (p : Int) d v).length = d := digs_length ..
  rw [hl, show (up mo).length = mo.length by simp]
  refine divN_iff hp _ _ (by rw [List.reverse_reverse, digs_up]) _ _ _ (by simp [digsN_length]; omega) ?_ ?_ ?_
  · intro x hx
    rcases List.mem_cons.1 hx with rfl | hx
    · omega
    · exact Nat.le_of_lt (hmo x (by simpa using hx))
  · intro k hk
    simp only [List.length_reverse, digsN_length] at hk ⊢
    rw [show d + (mo.length + 1 - d) - 1 - k = mo.length - k by omega]
    by_cases hkm : k = mo.length
    · subst hkm
      simp [vl]
    · rw [show mo.length - k = (mo.length - 1 - k) + 1 by omega, List.getD_cons_succ]
      simp only [vl, up, List.getD]
      rw [List.getElem?_append_left (by simp; omega), List.getElem?_reverse (by omega), show mo.length - 1 - (mo.length - 1 - k) = k by omega, List.getElem?_map]
      cases mo[k]? <;> rfl
  · intro k hk
    simp only [List.length_reverse, digsN_length] at hk
    simp only [vl, List.getD]
    rw [List.getElem?_eq_none (by simp; omega)]; rfl

theorem Irr_iff {p : Nat} (hp2 : 1 < p) {mo : List Nat} (hmo : DgN p mo) : irrN p mo.length (1 :: mo.reverse) (mo.length / 2) = true ↔ Irr p (up mo) := by
  rw [irrN_iff]
  unfold Irr
  constructor
  · intro h d v h1 h2 h3 h4
    have h2' : 2 * d ≤ mo.length := by simpa using h2
    have h5 := noDiv_iff.1 (h d h1 (by omega)) v (by
      have : ((v : Nat) : Int) < ((p ^ d : Nat) : Int) := by rw [Int.natCast_pow]; exact h3
      omega)
    rw [(Dv_iff (by omega) hmo (by omega) hp2).2 h4] at h5
    cases h5
  · intro h d h1 h2
    refine noDiv_iff.2 fun v hv => ?_
    have h3 := h d v h1 (by simp; omega) (by
      have : ((v : Nat) : Int) < ((p ^ d : Nat) : Int) := by omega
      rw [Int.natCast_pow] at this; exact this)
    rw [← Dv_iff (by omega) hmo (by omega) hp2] at h3
    exact Bool.eq_false_iff.2 h3

/-- What the table says of one ring: a generator, or two zero divisors. -/
noncomputable def chk1 (p m v : Nat) (c : Nat × Nat) : Bool :=
  frcL (digsN p m v) fun mo => match c.2 with
    | 0 => (Nat.beq m 1 || irrN p m (1 :: mo.reverse) (m / 2)) && Nat.blt c.1 (p ^ m) && frcL (digsN p m c.1) fun xs => chkG p mo (List.replicate m 0) (trimN xs) (p ^ m - 2) xs
    | b + 1 => !irrN p m (1 :: mo.reverse) (m / 2) && Nat.blt 0 c.1 && Nat.blt c.1 (p ^ m) && Nat.blt (b + 1) (p ^ m) && allz (hornerN p mo (digsN p m c.1) (List.replicate m 0) (digsN p m (b + 1)))

noncomputable def chkR (p m : Nat) : Nat → List (Nat × Nat) → Bool
  | _, [] => true
  | v, c :: l => chk1 p m v c && chkR p m (v + 1) l

theorem chkR_get {p m : Nat} : ∀ {l : List (Nat × Nat)} {v : Nat}, chkR p m v l = true → ∀ i, i < l.length → ∃ c, chk1 p m (v + i) c = true
  | [], v, _, i, hi => by simp at hi
  | c :: l, v, h, i, hi => by
    simp only [chkR, Bool.and_eq_true] at h
    cases i with
    | zero => exact ⟨c, h.1⟩
    | succ i =>
      have := chkR_get h.2 i (by simpa using hi)
      rwa [show v + 1 + i = v + (i + 1) by omega] at this

/-- What is shown of a ring. -/
def Ds.Decided (D : Ds) : Prop := ((D.m = 1 ∨ Irr D.p D.mo) → ∃ x, D.Gen x) ∧ (D.m ≠ 1 → ¬ Irr D.p D.mo → ∃ a b, D.R a ∧ D.R b ∧ a ≠ 0 ∧ b ≠ 0 ∧ D.mul a b = 0)

theorem Ds.Okm.decided {D : Ds} (o : D.Okm) {v : Nat} {c : Nat × Nat} (hv : up (digsN D.p D.m v) = D.moL) (h : chk1 D.p D.m v c = true) : D.Decided := by
  have hp := o.p2
  have hlen := o.len
  unfold chk1 at h
  rw [frcL_eq] at h
  have hdg := digsN_DgN (p := D.p) (by omega) D.m v
  have hirr : D.m ≠ 1 → (irrN D.p D.m (1 :: (digsN D.p D.m v).reverse) (D.m / 2) = true ↔ Irr D.p D.mo) := by
    intro hm
    have h1 := Irr_iff (p := D.p) (by omega) hdg
    rw [digsN_length, hv] at h1
    rw [h1]
    unfold Ds.moL
    rw [if_neg hm]
  split at h
  · simp only [Bool.and_eq_true, frcL_eq, Bool.or_eq_true, Nat.beq_eq] at h
    have hg : ∃ x, D.Gen x := ⟨c.1, Ds.gen_of o hv (by have := h.1.2; simp [Nat.blt] at this; unfold Ds.q; omega) h.2⟩
    refine ⟨fun _ => hg, fun h1 h2 => ?_⟩
    rcases h.1.1 with h3 | h3
    · exact (h1 h3).elim
    · exact (h2 ((hirr h1).1 h3)).elim
  · rename_i b hb
    simp only [Bool.and_eq_true, Bool.not_eq_true'] at h
    obtain ⟨⟨⟨⟨h1, h2⟩, h3⟩, h4⟩, h5⟩ := h
    simp [Nat.blt] at h2 h3 h4
    refine ⟨?_, fun hm hI => ⟨c.1, ((b + 1 : Nat) : Int), ⟨by omega, by unfold Ds.q; omega⟩, ⟨by omega, by unfold Ds.q; omega⟩, by omega, by omega, ?_⟩⟩
    · rintro (hm | hI)
      · rw [hm] at h1
        simp [irrN] at h1
      · by_cases hm : D.m = 1
        · rw [hm] at h1
          simp [irrN] at h1
        · rw [(hirr hm).2 hI] at h1; cases h1
    · exact Ds.div_of o hv (by unfold Ds.q; omega) (by unfold Ds.q; omega) h5
end Go.FM
end

section
/- The table of all residue rings of at most 256 elements: for each ring a generator of its nonzero elements, or two zero divisors. No Go program in it. -/
set_option linter.unusedSimpArgs false
set_option linter.unusedVariables false
set_option maxRecDepth 100000
namespace Go.FM

def rings1 : List (Nat × Nat) := [(2, 1), (3, 2), (5, 2), (7, 3), (11, 2), (13, 2), (17, 3), (19, 2), (23, 5), (29, 2), (31, 3), (37, 2), (41, 6), (43, 3), (47, 5), (53, 2), (59, 2), (61, 2), (67, 2), (71, 7), (73, 5), (79, 3), (83, 2), (89, 3), (97, 5), (101, 2), (103, 5), (107, 2), (109, 6), (113, 3), (127, 3), (131, 2), (137, 3), (139, 2), (149, 2), (151, 6), (157, 5), (163, 2), (167, 5), (173, 2), (179, 2), (181, 2), (191, 19), (193, 5), (197, 2), (199, 3), (211, 2), (223, 3), (227, 2), (229, 6), (233, 3), (239, 7), (241, 7), (251, 6)]
theorem rings1_ok : rings1.all (fun c => chkR c.1 1 0 [(c.2, 0)]) = true := by decide +kernel
def ring_2_2 : List (Nat × Nat) := [(2, 2), (3, 3), (2, 3), (2, 0)]
theorem ring_2_2_ok : chkR 2 2 0 ring_2_2 = true := by decide +kernel
def ring_2_3 : List (Nat × Nat) := [(2, 4), (3, 7), (2, 5), (2, 0), (2, 6), (2, 0), (2, 7), (3, 5)]
theorem ring_2_3_ok : chkR 2 3 0 ring_2_3 = true := by decide +kernel
def ring_2_4 : List (Nat × Nat) := [(2, 8), (3, 15), (2, 9), (2, 0), (2, 10), (7, 7), (2, 11), (3, 13), (2, 12), (2, 0), (2, 13), (3, 9), (2, 14), (3, 11), (2, 15), (3, 0)]
theorem ring_2_4_ok : chkR 2 4 0 ring_2_4 = true := by decide +kernel
def ring_2_5 : List (Nat × Nat) := [(2, 16), (3, 31), (2, 17), (7, 13), (2, 18), (2, 0), (2, 19), (3, 29), (2, 20), (2, 0), (2, 21), (3, 25), (2, 22), (3, 27), (2, 23), (2, 0), (2, 24), (7, 11), (2, 25), (3, 17), (2, 26), (3, 19), (2, 27), (2, 0), (2, 28), (3, 23), (2, 29), (2, 0), (2, 30), (2, 0), (2, 31), (3, 21)]
theorem ring_2_5_ok : chkR 2 5 0 ring_2_5 = true := by decide +kernel
def ring_2_6 : List (Nat × Nat) := [(2, 32), (3, 63), (2, 33), (2, 0), (2, 34), (11, 11), (2, 35), (3, 61), (2, 36), (3, 0), (2, 37), (3, 57), (2, 38), (3, 59), (2, 39), (7, 25), (2, 40), (13, 13), (2, 41), (3, 49), (2, 42), (3, 51), (2, 43), (3, 0), (2, 44), (3, 55), (2, 45), (2, 0), (2, 46), (7, 31), (2, 47), (3, 53), (2, 48), (2, 0), (2, 49), (3, 33), (2, 50), (3, 35), (2, 51), (2, 0), (2, 52), (3, 39), (2, 53), (7, 21), (2, 54), (2, 0), (2, 55), (3, 37), (2, 56), (3, 47), (2, 57), (2, 0), (2, 58), (3, 0), (2, 59), (3, 45), (2, 60), (7, 19), (2, 61), (3, 41), (2, 62), (3, 43), (2, 63), (11, 13)]
theorem ring_2_6_ok : chkR 2 6 0 ring_2_6 = true := by decide +kernel
def ring_2_7 : List (Nat × Nat) := [(2, 64), (3, 127), (2, 65), (2, 0), (2, 66), (7, 55), (2, 67), (3, 125), (2, 68), (2, 0), (2, 69), (3, 121), (2, 70), (3, 123), (2, 71), (2, 0), (2, 72), (2, 0), (2, 73), (3, 113), (2, 74), (3, 115), (2, 75), (7, 49), (2, 76), (3, 119), (2, 77), (13, 31), (2, 78), (2, 0), (2, 79), (3, 117), (2, 80), (7, 59), (2, 81), (3, 97), (2, 82), (3, 99), (2, 83), (2, 0), (2, 84), (3, 103), (2, 85), (2, 0), (2, 86), (11, 19), (2, 87), (3, 101), (2, 88), (3, 111), (2, 89), (7, 61), (2, 90), (13, 25), (2, 91), (3, 109), (2, 92), (2, 0), (2, 93), (3, 105), (2, 94), (3, 107), (2, 95), (2, 0), (2, 96), (2, 0), (2, 97), (3, 65), (2, 98), (3, 67), (2, 99), (13, 19), (2, 100), (3, 71), (2, 101), (2, 0), (2, 102), (7, 47), (2, 103), (3, 69), (2, 104), (3, 79), (2, 105), (2, 0), (2, 106), (2, 0), (2, 107), (3, 77), (2, 108), (11, 31), (2, 109), (3, 73), (2, 110), (3, 75), (2, 111), (7, 41), (2, 112), (3, 95), (2, 113), (11, 25), (2, 114), (2, 0), (2, 115), (3, 93), (2, 116), (7, 35), (2, 117), (3, 89), (2, 118), (3, 91), (2, 119), (2, 0), (2, 120), (2, 0), (2, 121), (3, 81), (2, 122), (3, 83), (2, 123), (2, 0), (2, 124), (3, 87), (2, 125), (7, 37), (2, 126), (2, 0), (2, 127), (3, 85)]
theorem ring_2_7_ok : chkR 2 7 0 ring_2_7 = true := by decide +kernel
def ring_2_8 : List (Nat × Nat) := [(2, 128), (3, 255), (2, 129), (7, 109), (2, 130), (19, 19), (2, 131), (3, 253), (2, 132), (11, 47), (2, 133), (3, 249), (2, 134), (3, 251), (2, 135), (13, 59), (2, 136), (7, 107), (2, 137), (3, 241), (2, 138), (3, 243), (2, 139), (25, 31), (2, 140), (3, 247), (2, 141), (3, 0), (2, 142), (2, 0), (2, 143), (3, 245), (2, 144), (13, 61), (2, 145), (3, 225), (2, 146), (3, 227), (2, 147), (7, 97), (2, 148), (3, 231), (2, 149), (2, 0), (2, 150), (2, 0), (2, 151), (3, 229), (2, 152), (3, 239), (2, 153), (11, 41), (2, 154), (7, 103), (2, 155), (3, 237), (2, 156), (3, 0), (2, 157), (3, 233), (2, 158), (3, 235), (2, 159), (3, 0), (2, 160), (25, 25), (2, 161), (3, 193), (2, 162), (3, 195), (2, 163), (11, 37), (2, 164), (3, 199), (2, 165), (7, 117), (2, 166), (2, 0), (2, 167), (3, 197), (2, 168), (3, 207), (2, 169), (13, 55), (2, 170), (31, 31), (2, 171), (3, 205), (2, 172), (7, 115), (2, 173), (3, 201), (2, 174), (3, 203), (2, 175), (2, 0), (2, 176), (3, 223), (2, 177), (2, 0), (2, 178), (2, 0), (2, 179), (3, 221), (2, 180), (2, 0), (2, 181), (3, 217), (2, 182), (3, 219), (2, 183), (7, 121), (2, 184), (2, 0), (2, 185), (3, 209), (2, 186), (3, 211), (2, 187), (3, 0), (2, 188), (3, 215), (2, 189), (9, 0), (2, 190), (7, 127), (2, 191), (3, 213), (2, 192), (7, 91), (2, 193), (3, 129), (2, 194), (3, 131), (2, 195), (2, 0), (2, 196), (3, 135), (2, 197), (6, 0), (2, 198), (2, 0), (2, 199), (3, 133), (2, 200), (3, 143), (2, 201), (7, 93), (2, 202), (11, 59), (2, 203), (3, 141), (2, 204), (13, 37), (2, 205), (3, 137), (2, 206), (3, 139), (2, 207), (3, 0), (2, 208), (3, 159), (2, 209), (3, 0), (2, 210), (7, 87), (2, 211), (3, 157), (2, 212), (2, 0), (2, 213), (3, 153), (2, 214), (3, 155), (2, 215), (11, 61), (2, 216), (6, 0), (2, 217), (3, 145), (2, 218), (3, 147), (2, 219), (7, 81), (2, 220), (3, 151), (2, 221), (19, 25), (2, 222), (7, 0), (2, 223), (3, 149), (2, 224), (3, 191), (2, 225), (2, 0), (2, 226), (13, 41), (2, 227), (3, 189), (2, 228), (7, 67), (2, 229), (3, 185), (2, 230), (3, 187), (2, 231), (2, 0), (2, 232), (19, 31), (2, 233), (3, 177), (2, 234), (3, 179), (2, 235), (7, 0), (2, 236), (3, 183), (2, 237), (7, 69), (2, 238), (6, 0), (2, 239), (3, 181), (2, 240), (11, 55), (2, 241), (3, 161), (2, 242), (3, 163), (2, 243), (2, 0), (2, 244), (3, 167), (2, 245), (13, 47), (2, 246), (7, 79), (2, 247), (3, 165), (2, 248), (3, 175), (2, 249), (6, 0), (2, 250), (2, 0), (2, 251), (3, 173), (2, 252), (3, 0), (2, 253), (3, 169), (2, 254), (3, 171), (2, 255), (7, 73)]
theorem ring_2_8_ok : chkR 2 8 0 ring_2_8 = true := by decide +kernel
def ring_3_2 : List (Nat × Nat) := [(3, 3), (4, 0), (4, 5), (3, 4), (5, 5), (3, 0), (3, 5), (4, 4), (3, 0)]
theorem ring_3_2_ok : chkR 3 2 0 ring_3_2 = true := by decide +kernel
def ring_3_3 : List (Nat × Nat) := [(3, 9), (4, 16), (5, 13), (3, 10), (5, 14), (4, 17), (3, 11), (3, 0), (6, 0), (3, 12), (5, 17), (5, 0), (3, 13), (4, 10), (4, 0), (3, 14), (3, 0), (4, 11), (3, 15), (3, 0), (4, 14), (3, 16), (3, 0), (5, 10), (3, 17), (4, 13), (4, 0)]
theorem ring_3_3_ok : chkR 3 3 0 ring_3_3 = true := by decide +kernel
def ring_3_4 : List (Nat × Nat) := [(3, 27), (14, 17), (4, 50), (3, 28), (5, 41), (3, 0), (3, 29), (4, 49), (3, 0), (3, 30), (4, 52), (12, 0), (3, 31), (4, 0), (4, 53), (3, 32), (5, 0), (5, 43), (3, 33), (10, 10), (4, 0), (3, 34), (4, 46), (5, 37), (3, 35), (5, 38), (4, 47), (3, 36), (5, 53), (3, 0), (3, 37), (4, 28), (10, 14), (3, 38), (4, 0), (4, 29), (3, 39), (10, 0), (4, 32), (3, 40), (5, 0), (5, 46), (3, 41), (4, 31), (3, 0), (3, 42), (4, 34), (5, 49), (3, 43), (5, 50), (4, 35), (3, 44), (17, 17), (3, 0), (3, 45), (4, 43), (3, 0), (3, 46), (4, 0), (4, 44), (3, 47), (5, 29), (10, 17), (3, 48), (10, 0), (5, 31), (3, 49), (4, 37), (3, 0), (3, 50), (4, 0), (4, 38), (3, 51), (5, 35), (4, 41), (3, 52), (14, 14), (3, 0), (3, 53), (4, 40), (5, 34)]
theorem ring_3_4_ok : chkR 3 4 0 ring_3_4 = true := by decide +kernel
def ring_3_5 : List (Nat × Nat) := [(3, 81), (4, 151), (5, 121), (3, 82), (5, 122), (4, 152), (3, 83), (3, 0), (6, 0), (3, 84), (5, 125), (17, 43), (3, 85), (4, 145), (4, 0), (3, 86), (10, 34), (4, 146), (3, 87), (14, 53), (4, 149), (3, 88), (3, 0), (5, 118), (3, 89), (4, 148), (10, 35), (3, 90), (5, 134), (4, 158), (3, 91), (3, 0), (6, 0), (3, 92), (4, 157), (5, 133), (3, 93), (4, 160), (4, 0), (3, 94), (17, 38), (4, 161), (3, 95), (5, 128), (6, 0), (3, 96), (3, 0), (5, 130), (3, 97), (4, 154), (14, 46), (3, 98), (3, 0), (4, 155), (3, 99), (17, 41), (14, 49), (3, 100), (4, 136), (5, 109), (3, 101), (5, 110), (4, 137), (3, 102), (3, 0), (4, 140), (3, 103), (5, 113), (5, 0), (3, 104), (4, 139), (4, 0), (3, 105), (4, 142), (4, 0), (3, 106), (3, 0), (4, 143), (3, 107), (4, 0), (5, 115), (3, 108), (5, 161), (5, 0), (3, 109), (4, 82), (4, 0), (3, 110), (3, 0), (4, 83), (3, 111), (3, 0), (4, 86), (3, 112), (3, 0), (5, 154), (3, 113), (4, 85), (4, 0), (3, 114), (4, 88), (5, 157), (3, 115), (5, 158), (4, 89), (3, 116), (10, 43), (17, 46), (3, 117), (4, 97), (10, 38), (3, 118), (3, 0), (4, 98), (3, 119), (5, 137), (14, 34), (3, 120), (14, 35), (5, 139), (3, 121), (4, 91), (17, 49), (3, 122), (3, 0), (4, 92), (3, 123), (5, 143), (4, 95), (3, 124), (3, 0), (6, 0), (3, 125), (4, 94), (5, 142), (3, 126), (3, 0), (4, 104), (3, 127), (5, 149), (10, 41), (3, 128), (4, 103), (6, 0), (3, 129), (4, 106), (4, 0), (3, 130), (3, 0), (4, 107), (3, 131), (17, 53), (5, 151), (3, 132), (3, 0), (6, 0), (3, 133), (4, 100), (5, 145), (3, 134), (5, 146), (4, 101), (3, 135), (3, 0), (4, 131), (3, 136), (3, 0), (5, 82), (3, 137), (4, 130), (5, 0), (3, 138), (4, 133), (5, 85), (3, 139), (5, 86), (4, 134), (3, 140), (14, 38), (10, 53), (3, 141), (5, 89), (5, 0), (3, 142), (4, 127), (4, 0), (3, 143), (3, 0), (4, 128), (3, 144), (10, 46), (5, 94), (3, 145), (4, 109), (4, 0), (3, 146), (17, 35), (4, 110), (3, 147), (5, 98), (4, 113), (3, 148), (3, 0), (6, 0), (3, 149), (4, 112), (5, 97), (3, 150), (4, 115), (17, 34), (3, 151), (14, 41), (4, 116), (3, 152), (5, 92), (5, 0), (3, 153), (4, 124), (4, 0), (3, 154), (10, 49), (4, 125), (3, 155), (3, 0), (5, 106), (3, 156), (3, 0), (6, 0), (3, 157), (4, 118), (5, 100), (3, 158), (5, 101), (4, 119), (3, 159), (7, 0), (4, 122), (3, 160), (5, 104), (5, 0), (3, 161), (4, 121), (14, 43)]
theorem ring_3_5_ok : chkR 3 5 0 ring_3_5 = true := by decide +kernel
def ring_5_2 : List (Nat × Nat) := [(5, 5), (7, 8), (6, 0), (7, 0), (6, 9), (5, 6), (7, 0), (5, 0), (7, 9), (8, 8), (5, 7), (6, 6), (8, 9), (5, 0), (8, 0), (5, 8), (9, 9), (6, 7), (5, 0), (6, 0), (5, 9), (6, 0), (5, 0), (6, 8), (7, 7)]
theorem ring_5_2_ok : chkR 5 2 0 ring_5_2 = true := by decide +kernel
def ring_5_3 : List (Nat × Nat) := [(5, 25), (6, 46), (8, 39), (7, 44), (9, 31), (5, 26), (9, 0), (6, 47), (9, 32), (6, 0), (5, 27), (6, 0), (7, 41), (6, 48), (7, 0), (5, 28), (8, 37), (5, 0), (5, 0), (6, 49), (5, 29), (7, 43), (5, 0), (5, 0), (8, 38), (5, 30), (7, 0), (5, 0), (8, 41), (7, 47), (5, 31), (6, 26), (9, 38), (5, 0), (6, 0), (5, 32), (9, 39), (6, 27), (7, 49), (8, 43), (5, 33), (6, 0), (8, 44), (6, 28), (8, 0), (5, 34), (6, 0), (7, 46), (5, 0), (6, 29), (5, 35), (6, 0), (9, 43), (5, 0), (6, 34), (5, 36), (9, 44), (7, 26), (5, 0), (7, 0), (5, 37), (6, 31), (5, 0), (5, 0), (7, 27), (5, 38), (7, 28), (6, 32), (8, 46), (9, 41), (5, 39), (8, 47), (5, 0), (6, 33), (8, 0), (5, 40), (7, 33), (5, 0), (6, 38), (7, 0), (5, 41), (6, 0), (5, 0), (7, 34), (6, 39), (5, 42), (8, 27), (5, 0), (5, 0), (9, 46), (5, 43), (6, 36), (7, 31), (9, 47), (8, 28), (5, 44), (7, 0), (6, 37), (5, 0), (7, 32), (5, 45), (8, 32), (6, 42), (5, 0), (6, 0), (5, 46), (6, 0), (5, 0), (6, 43), (7, 37), (5, 47), (7, 38), (8, 34), (9, 27), (6, 44), (5, 48), (7, 0), (9, 28), (7, 39), (9, 0), (5, 49), (6, 41), (5, 0), (8, 31), (6, 0)]
theorem ring_5_3_ok : chkR 5 3 0 ring_5_3 = true := by decide +kernel
def ring_7_2 : List (Nat × Nat) := [(7, 7), (9, 0), (8, 0), (9, 12), (8, 0), (10, 11), (8, 13), (7, 8), (10, 12), (11, 11), (7, 0), (10, 0), (9, 13), (10, 0), (7, 9), (8, 8), (10, 0), (7, 0), (10, 13), (7, 0), (11, 12), (7, 10), (11, 0), (8, 9), (11, 13), (12, 12), (7, 0), (11, 0), (7, 11), (8, 0), (12, 13), (8, 10), (9, 9), (7, 0), (8, 0), (7, 12), (13, 13), (8, 0), (7, 0), (8, 11), (7, 0), (9, 10), (7, 13), (9, 11), (10, 10), (7, 0), (9, 0), (8, 12), (9, 0)]
theorem ring_7_2_ok : chkR 7 2 0 ring_7_2 = true := by decide +kernel
def ring_11_2 : List (Nat × Nat) := [(11, 11), (15, 0), (14, 19), (13, 0), (14, 0), (12, 0), (15, 18), (13, 20), (16, 17), (13, 0), (12, 21), (11, 12), (15, 0), (16, 18), (17, 17), (13, 0), (14, 20), (13, 0), (11, 0), (11, 0), (13, 21), (15, 19), (11, 13), (12, 12), (16, 0), (15, 20), (14, 0), (15, 0), (11, 0), (16, 19), (14, 21), (17, 18), (14, 0), (11, 14), (16, 20), (12, 13), (16, 0), (17, 19), (18, 18), (11, 0), (15, 21), (11, 0), (12, 0), (12, 0), (11, 15), (18, 19), (11, 0), (12, 14), (13, 13), (17, 0), (16, 21), (11, 0), (16, 0), (12, 0), (17, 20), (11, 16), (12, 0), (11, 0), (13, 0), (12, 15), (17, 21), (13, 14), (17, 0), (18, 20), (19, 19), (12, 0), (11, 17), (12, 0), (11, 0), (13, 0), (18, 21), (12, 16), (19, 20), (12, 0), (13, 15), (14, 14), (18, 0), (11, 18), (14, 15), (11, 0), (19, 21), (20, 20), (13, 0), (12, 17), (11, 0), (12, 0), (14, 0), (13, 16), (11, 19), (13, 17), (20, 21), (13, 0), (14, 16), (15, 15), (11, 0), (12, 18), (11, 0), (12, 0), (14, 0), (11, 20), (21, 21), (14, 0), (13, 18), (12, 0), (13, 0), (11, 0), (14, 17), (12, 19), (15, 16), (12, 0), (11, 21), (14, 0), (15, 17), (16, 16), (12, 0), (13, 19), (12, 0), (11, 0), (11, 0), (12, 20), (14, 18)]
theorem ring_11_2_ok : chkR 11 2 0 ring_11_2 = true := by decide +kernel
def ring_13_2 : List (Nat × Nat) := [(13, 13), (18, 21), (15, 0), (19, 20), (16, 23), (14, 0), (14, 0), (15, 0), (17, 0), (15, 24), (17, 22), (15, 0), (14, 25), (13, 14), (17, 23), (13, 0), (17, 0), (15, 0), (15, 0), (18, 22), (16, 24), (17, 0), (19, 21), (20, 20), (15, 25), (17, 0), (13, 15), (14, 14), (19, 22), (16, 0), (20, 21), (17, 24), (13, 0), (13, 0), (16, 0), (18, 0), (16, 25), (18, 23), (16, 0), (13, 16), (18, 0), (14, 15), (18, 24), (14, 0), (18, 0), (13, 0), (13, 0), (19, 23), (17, 25), (18, 0), (20, 22), (21, 21), (13, 17), (19, 24), (13, 0), (14, 16), (15, 15), (20, 23), (13, 0), (21, 22), (18, 25), (14, 0), (14, 0), (13, 0), (19, 0), (13, 18), (19, 0), (21, 23), (22, 22), (14, 17), (19, 0), (15, 16), (19, 25), (15, 0), (19, 0), (14, 0), (13, 0), (20, 24), (13, 19), (15, 0), (13, 0), (14, 0), (20, 0), (14, 18), (20, 25), (13, 0), (15, 17), (16, 16), (21, 24), (13, 0), (22, 23), (13, 20), (16, 0), (13, 0), (15, 0), (14, 0), (21, 25), (14, 19), (13, 0), (22, 24), (23, 23), (15, 18), (13, 0), (16, 17), (13, 21), (14, 0), (16, 18), (17, 17), (22, 25), (14, 0), (23, 24), (14, 20), (16, 0), (14, 0), (15, 0), (13, 0), (15, 19), (13, 22), (15, 20), (13, 0), (23, 25), (24, 24), (16, 19), (13, 0), (17, 18), (14, 21), (17, 0), (14, 0), (13, 0), (15, 0), (13, 23), (15, 0), (24, 25), (15, 21), (17, 0), (15, 0), (13, 0), (13, 0), (16, 20), (14, 22), (15, 0), (17, 19), (18, 18), (13, 24), (25, 25), (17, 20), (14, 0), (18, 19), (15, 22), (13, 0), (13, 0), (14, 0), (16, 0), (14, 23), (16, 21), (14, 0), (13, 25), (16, 22), (13, 0), (16, 0), (14, 0), (14, 0), (17, 21), (15, 23), (16, 0), (18, 20), (19, 19), (14, 24), (16, 0)]
theorem ring_13_2_ok : chkR 13 2 0 ring_13_2 = true := by decide +kernel

def ringB (p m : Nat) : Bool := (Nat.beq p 2 && Nat.beq m 2) || (Nat.beq p 2 && Nat.beq m 3) || (Nat.beq p 2 && Nat.beq m 4) || (Nat.beq p 2 && Nat.beq m 5) || (Nat.beq p 2 && Nat.beq m 6) || (Nat.beq p 2 && Nat.beq m 7) || (Nat.beq p 2 && Nat.beq m 8) || (Nat.beq p 3 && Nat.beq m 2) || (Nat.beq p 3 && Nat.beq m 3) || (Nat.beq p 3 && Nat.beq m 4) || (Nat.beq p 3 && Nat.beq m 5) || (Nat.beq p 5 && Nat.beq m 2) || (Nat.beq p 5 && Nat.beq m 3) || (Nat.beq p 7 && Nat.beq m 2) || (Nat.beq p 11 && Nat.beq m 2) || (Nat.beq p 13 && Nat.beq m 2)

/-- A prime number. -/
def IsP (n : Nat) : Prop := 2 ≤ n ∧ ∀ d, 2 ≤ d → d < n → n % d ≠ 0

def isPB (n : Nat) : Bool := Nat.ble 2 n && (List.range n).all fun d => Nat.ble d 1 || !Nat.beq (n % d) 0

theorem isPB_of {n : Nat} (h : IsP n) : isPB n = true := by
  simp only [isPB, Bool.and_eq_true, List.all_eq_true, List.mem_range, Bool.or_eq_true, Nat.ble_eq, Bool.not_eq_true']
  refine ⟨h.1, fun d hd => ?_⟩
  by_cases h1 : d ≤ 1
  · exact .inl h1
  · refine .inr ?_
    have := h.2 d (by omega) hd
    cases hb : Nat.beq (n % d) 0 with
    | false => rfl
    | true => exact (this (Nat.eq_of_beq_eq_true hb)).elim

def coverB : Bool := (List.range 257).all fun p => !isPB p || ((rings1.any fun c => Nat.beq c.1 p) && (List.range 7).all fun m => !Nat.ble (p ^ (m + 2)) 256 || ringB p (m + 2))
theorem coverB_ok : coverB = true := by decide +kernel

theorem ringB_row {p m : Nat} (h : ringB p m = true) : ∃ l : List (Nat × Nat), l.length = p ^ m ∧ chkR p m 0 l = true := by
  simp only [ringB, Bool.or_eq_true, Bool.and_eq_true, Nat.beq_eq] at h
  rcases h with (((((((((((((((⟨rfl, rfl⟩ | ⟨rfl, rfl⟩) | ⟨rfl, rfl⟩) | ⟨rfl, rfl⟩) | ⟨rfl, rfl⟩) | ⟨rfl, rfl⟩) | ⟨rfl, rfl⟩) | ⟨rfl, rfl⟩) | ⟨rfl, rfl⟩) | ⟨rfl, rfl⟩) | ⟨rfl, rfl⟩) | ⟨rfl, rfl⟩) | ⟨rfl, rfl⟩) | ⟨rfl, rfl⟩) | ⟨rfl, rfl⟩) | ⟨rfl, rfl⟩)
  · exact ⟨ring_2_2, by decide +kernel, ring_2_2_ok⟩
  · exact ⟨ring_2_3, by decide +kernel, ring_2_3_ok⟩
  · exact ⟨ring_2_4, by decide +kernel, ring_2_4_ok⟩
  · exact ⟨ring_2_5, by decide +kernel, ring_2_5_ok⟩
  · exact ⟨ring_2_6, by decide +kernel, ring_2_6_ok⟩
  · exact ⟨ring_2_7, by decide +kernel, ring_2_7_ok⟩
  · exact ⟨ring_2_8, by decide +kernel, ring_2_8_ok⟩
  · exact ⟨ring_3_2, by decide +kernel, ring_3_2_ok⟩
  · exact ⟨ring_3_3, by decide +kernel, ring_3_3_ok⟩
  · exact ⟨ring_3_4, by decide +kernel, ring_3_4_ok⟩
  · exact ⟨ring_3_5, by decide +kernel, ring_3_5_ok⟩
  · exact ⟨ring_5_2, by decide +kernel, ring_5_2_ok⟩
  · exact ⟨ring_5_3, by decide +kernel, ring_5_3_ok⟩
  · exact ⟨ring_7_2, by decide +kernel, ring_7_2_ok⟩
  · exact ⟨ring_11_2, by decide +kernel, ring_11_2_ok⟩
  · exact ⟨ring_13_2, by decide +kernel, ring_13_2_ok⟩

theorem Ds.Okm.decide {D : Ds} (o : D.Okm) (hp : IsP D.p) (hq : D.q ≤ 256) : D.Decided := by
  have hp2 := o.p2
  have hm1 := o.m1
  have hpq : D.p ≤ D.q := Nat.le_self_pow (by omega) _
  have hm8 : D.m ≤ 8 := by
    apply Classical.byContradiction
    intro hc
    have h1 : 2 ^ D.m ≤ D.p ^ D.m := Nat.pow_le_pow_left hp2 _
    have h2 : 2 ^ 9 ≤ 2 ^ D.m := Nat.pow_le_pow_right (by omega) (by omega)
    unfold Ds.q at hq
    omega
  have hc := coverB_ok
  simp only [coverB, List.all_eq_true, List.mem_range, Bool.or_eq_true, Bool.not_eq_true', Bool.and_eq_true, List.any_eq_true] at hc
  have h1 := hc D.p (by omega)
  rw [isPB_of hp] at h1
  have h2 := h1.resolve_left (by simp)
  have hdg : Dg D.p D.moL := by
    obtain ⟨fs, h3, h4⟩ := o.moN
    rw [← h4]; exact h3.up
  have hvr := val_range o.p0 hdg
  have hdv := digs_val o.p0 hdg
  rw [o.moL_len] at hvr hdv
  by_cases hm : D.m = 1
  · obtain ⟨c, hc1, hc2⟩ := h2.1
    have h3 := List.all_eq_true.1 rings1_ok c hc1
    rw [Nat.eq_of_beq_eq_true hc2, ← hm] at h3
    simp only [chkR, Bool.and_true] at h3
    refine o.decided (v := 0) ?_ h3
    rw [← digs_up]
    unfold Ds.moL
    rw [if_pos hm, hm]
    simp [digs]
  · have h3 := h2.2 (D.m - 2) (by omega)
    rw [show D.m - 2 + 2 = D.m by omega] at h3
    have h4 : Nat.ble (D.p ^ D.m) 256 = true := by rw [Nat.ble_eq]; exact hq
    rw [h4] at h3
    obtain ⟨l, hl, hk⟩ := ringB_row (h3.resolve_left (by simp))
    have hlt : (val D.p D.moL).toNat < l.length := by
      have : ((D.p ^ D.m : Nat) : Int) = (D.p : Int) ^ D.m := by simp
      omega
    obtain ⟨c, hc⟩ := chkR_get hk _ hlt
    rw [Nat.zero_add] at hc
    refine o.decided ?_ hc
    rw [← digs_up, Int.toNat_of_nonneg hvr.1, hdv]

end Go.FM
end

section
/- Sums and negatives by digits. No Go program in it. -/
set_option linter.unusedSimpArgs false
set_option linter.unusedVariables false
namespace Go.FM

theorem red_cons (p : Int) (m : Nat) (v : V) : red p (m + 1) v = (v 0 % p) :: red p m (fun j => v (j + 1)) := by
  simp [red, List.range_succ_eq_map, Function.comp_def]
theorem red_snoc (p : Int) (m : Nat) (v : V) : red p (m + 1) v = red p m v ++ [v m % p] := by
  simp [red, List.range_succ]
theorem val_append (p : Int) : ∀ (l r : List Int), val p (l ++ r) = val p l + p ^ l.length * val p r
  | [], r => by simp [val]
  | d :: l, r => by
    have := val_append p l r
    simp only [List.cons_append, val, this, List.length_cons, Int.pow_succ]
    grind
theorem val_zeros (p : Int) : ∀ n, val p (List.replicate n 0) = 0
  | 0 => rfl
  | n + 1 => by simp [List.replicate_succ, val, val_zeros p n]
theorem red_ext {p : Int} {m : Nat} {u v : V} (h : ∀ j, j < m → u j % p = v j % p) : red p m u = red p m v := by
  unfold red
  exact List.map_congr_left fun j hj => h j (List.mem_range.1 hj)

theorem vl_cons_succ (d : Int) (l : List Int) (j : Nat) : vl (d :: l) (j + 1) = vl l j := by simp [vl]
theorem vl_cons_zero (d : Int) (l : List Int) : vl (d :: l) 0 = d := rfl

/-- Exclusive or adds the digits in base 2. -/
theorem digs_xor : ∀ (m x y : Nat), digs 2 m ((x ^^^ y : Nat) : Int) = red 2 m (fun j => vl (digs 2 m x) j + vl (digs 2 m y) j)
  | 0, _, _ => rfl
  | m + 1, x, y => by
    rw [red_cons]
    simp only [digs, vl_cons_zero, vl_cons_succ]
    have h1 : (x ^^^ y) % 2 = (x + y) % 2 := by
      have := Nat.xor_mod_two_eq_one (a := x) (b := y)
      omega
    have h2 := Nat.xor_div_two (a := x) (b := y)
    have ih := digs_xor m (x / 2) (y / 2)
    rw [← h2] at ih
    have e1 : ((x ^^^ y : Nat) : Int) / 2 = (((x ^^^ y) / 2 : Nat) : Int) := by simp
    have e2 : (x : Int) / 2 = ((x / 2 : Nat) : Int) := by simp
    have e3 : (y : Int) / 2 = ((y / 2 : Nat) : Int) := by simp
    rw [e1, e2, e3, ih]
    congr 1
    omega
end Go.FM
end

section
/- Linear algebra over a field: sums, products of matrices, the determinant by expansion along the first row, as a function of the columns. No Go program in it. -/
set_option linter.unusedSimpArgs false
set_option linter.unusedVariables false
namespace Go.LA

/-- A field. -/
structure FldS (K : Type) where
  add : K → K → K
  mul : K → K → K
  neg : K → K
  zero : K
  one : K
  inv : K → K
  add_comm : ∀ a b, add a b = add b a
  add_assoc : ∀ a b c, add (add a b) c = add a (add b c)
  add_zero : ∀ a, add a zero = a
  add_neg : ∀ a, add a (neg a) = zero
  mul_comm : ∀ a b, mul a b = mul b a
  mul_assoc : ∀ a b c, mul (mul a b) c = mul a (mul b c)
  mul_one : ∀ a, mul a one = a
  mul_add : ∀ a b c, mul a (add b c) = add (mul a b) (mul a c)
  mul_inv : ∀ a, a ≠ zero → mul a (inv a) = one
  one_ne : one ≠ zero

/-- A type that has the operations of a field. -/
abbrev Fld (K : Type) := Inhabited (FldS K)
section
variable {K : Type} [Fld K]

/-- The field of a type. -/
def fl (K : Type) [Fld K] : FldS K := default
instance (priority := low) iAdd : Add K := ⟨(fl K).add⟩
instance (priority := low) iMul : Mul K := ⟨(fl K).mul⟩
instance (priority := low) iNeg : Neg K := ⟨(fl K).neg⟩
instance (priority := low) iZero : OfNat K 0 := ⟨(fl K).zero⟩
instance (priority := low) iOne : OfNat K 1 := ⟨(fl K).one⟩
/-- The inverse. -/
def Fld.inv (a : K) : K := (fl K).inv a

theorem add_comm (a b : K) : a + b = b + a := (fl K).add_comm a b
theorem add_assoc (a b c : K) : a + b + c = a + (b + c) := (fl K).add_assoc a b c
theorem add_zero (a : K) : a + 0 = a := (fl K).add_zero a
theorem zero_add (a : K) : 0 + a = a := by rw [add_comm, add_zero]
theorem add_neg (a : K) : a + -a = 0 := (fl K).add_neg a
theorem neg_add (a : K) : -a + a = 0 := by rw [add_comm, add_neg]
theorem mul_comm (a b : K) : a * b = b * a := (fl K).mul_comm a b
theorem mul_assoc (a b c : K) : a * b * c = a * (b * c) := (fl K).mul_assoc a b c
theorem mul_one (a : K) : a * 1 = a := (fl K).mul_one a
theorem one_mul (a : K) : 1 * a = a := by rw [mul_comm, mul_one]
theorem mul_add (a b c : K) : a * (b + c) = a * b + a * c := (fl K).mul_add a b c
theorem add_mul (a b c : K) : (a + b) * c = a * c + b * c := by rw [mul_comm, mul_add, mul_comm c a, mul_comm c b]
theorem mul_inv {a : K} (h : a ≠ 0) : a * Fld.inv a = 1 := (fl K).mul_inv a h
theorem one_ne : (1 : K) ≠ 0 := (fl K).one_ne
instance (priority := low) iAddC : Std.Commutative (α := K) (· + ·) := ⟨add_comm⟩
instance (priority := low) iAddA : Std.Associative (α := K) (· + ·) := ⟨add_assoc⟩
instance (priority := low) iMulC : Std.Commutative (α := K) (· * ·) := ⟨mul_comm⟩
instance (priority := low) iMulA : Std.Associative (α := K) (· * ·) := ⟨mul_assoc⟩
theorem add_left_comm (a b c : K) : a + (b + c) = b + (a + c) := by rw [← add_assoc, add_comm a b, add_assoc]
theorem mul_left_comm (a b c : K) : a * (b * c) = b * (a * c) := by rw [← mul_assoc, mul_comm a b, mul_assoc]

theorem add_cancel {a b c : K} (h : a + b = a + c) : b = c := by
  have : -a + (a + b) = -a + (a + c) := by rw [h]
  rwa [← add_assoc, ← add_assoc, neg_add, zero_add, zero_add] at this
theorem mul_zero (a : K) : a * 0 = 0 := by
  refine add_cancel (a := a * 0) ?_
  rw [← mul_add, add_zero, add_zero]
theorem zero_mul (a : K) : 0 * a = 0 := by rw [mul_comm, mul_zero]
theorem eq_neg {a b : K} (h : a + b = 0) : a = -b := by
  refine add_cancel (a := b) ?_
  rw [add_neg, add_comm, h]
theorem neg_neg (a : K) : - -a = a := (eq_neg (add_neg a)).symm
theorem neg_zero : -(0 : K) = 0 := (eq_neg (add_zero 0)).symm
theorem neg_mul (a b : K) : -a * b = -(a * b) := eq_neg (by rw [← add_mul, neg_add, zero_mul])
theorem mul_neg (a b : K) : a * -b = -(a * b) := by rw [mul_comm, neg_mul, mul_comm]
theorem neg_addd (a b : K) : -(a + b) = -a + -b := by
  symm
  refine eq_neg ?_
  rw [show -a + -b + (a + b) = (a + -a) + (b + -b) by ac_rfl, add_neg, add_neg, add_zero]
theorem neg_one_mul (a : K) : -1 * a = -a := by rw [neg_mul, one_mul]
theorem neg_inj {a b : K} (h : -a = -b) : a = b := by rw [← neg_neg a, h, neg_neg]
theorem neg_ne {a : K} (h : a ≠ 0) : -a ≠ 0 := fun h2 => h (by rw [← neg_neg a, h2, neg_zero])
theorem inv_mul {a : K} (h : a ≠ 0) : Fld.inv a * a = 1 := by rw [mul_comm, mul_inv h]
theorem inv_ne {a : K} (h : a ≠ 0) : Fld.inv a ≠ 0 := fun h2 => one_ne (K := K) (by rw [← mul_inv h, h2, mul_zero])
theorem mul_cancel {a b c : K} (h : a ≠ 0) (e : a * b = a * c) : b = c := by
  have : Fld.inv a * (a * b) = Fld.inv a * (a * c) := by rw [e]
  rwa [← mul_assoc, ← mul_assoc, inv_mul h, one_mul, one_mul] at this
theorem mul_ne {a b : K} (ha : a ≠ 0) (hb : b ≠ 0) : a * b ≠ 0 := fun h => hb (mul_cancel ha (h.trans (mul_zero a).symm))
theorem inv_one : Fld.inv (1 : K) = 1 := by
  have := mul_inv (one_ne (K := K))
  rwa [one_mul] at this

/-! ### Sums -/

def Sm : Nat → (Nat → K) → K
  | 0, _ => 0
  | n + 1, f => Sm n f + f n

theorem Sm_congr {f g : Nat → K} : ∀ {n : Nat}, (∀ i, i < n → f i = g i) → Sm n f = Sm n g
  | 0, _ => rfl
  | n + 1, h => by
    simp only [Sm]
    rw [Sm_congr (n := n) (fun i hi => h i (by omega)), h n (by omega)]
theorem Sm_zero : ∀ n, Sm n (fun _ => (0 : K)) = 0
  | 0 => rfl
  | n + 1 => by simp only [Sm, Sm_zero n, add_zero]
theorem Sm_zeros {f : Nat → K} {n : Nat} (h : ∀ i, i < n → f i = 0) : Sm n f = 0 := by rw [Sm_congr h, Sm_zero]
theorem Sm_add (f g : Nat → K) : ∀ n, Sm n (fun i => f i + g i) = Sm n f + Sm n g
  | 0 => (add_zero 0).symm
  | n + 1 => by simp only [Sm, Sm_add f g n]; ac_rfl
theorem Sm_mul (c : K) (f : Nat → K) : ∀ n, Sm n (fun i => c * f i) = c * Sm n f
  | 0 => (mul_zero c).symm
  | n + 1 => by simp only [Sm, Sm_mul c f n, mul_add]
theorem Sm_mulr (c : K) (f : Nat → K) (n : Nat) : Sm n (fun i => f i * c) = Sm n f * c := by
  rw [mul_comm, ← Sm_mul]; exact Sm_congr fun i _ => mul_comm _ _
theorem Sm_neg (f : Nat → K) (n : Nat) : Sm n (fun i => -f i) = -Sm n f := by
  rw [← neg_one_mul, ← Sm_mul]; exact Sm_congr fun i _ => (neg_one_mul _).symm
theorem Sm_comm (f : Nat → Nat → K) (n : Nat) : ∀ m, Sm n (fun i => Sm m (fun j => f i j)) = Sm m (fun j => Sm n (fun i => f i j))
  | 0 => by simp only [Sm, Sm_zero]
  | m + 1 => by simp only [Sm, Sm_add, Sm_comm f n m]
theorem Sm_single {f : Nat → K} {k : Nat} : ∀ {n : Nat}, k < n → (∀ i, i < n → i ≠ k → f i = 0) → Sm n f = f k
  | 0, h, _ => by omega
  | n + 1, h, hz => by
    simp only [Sm]
    by_cases e : n = k
    · subst e
      rw [Sm_zeros fun i hi => hz i (by omega) (by omega), zero_add]
    · rw [Sm_single (n := n) (by omega) (fun i hi => hz i (by omega)), hz n (by omega) e, add_zero]
theorem Sm_two {f : Nat → K} {a b : Nat} (hab : a < b) : ∀ {n : Nat}, b < n → (∀ i, i < n → i ≠ a → i ≠ b → f i = 0) → Sm n f = f a + f b
  | 0, h, _ => by omega
  | n + 1, h, hz => by
    simp only [Sm]
    by_cases e : n = b
    · subst e
      rw [Sm_single (k := a) (by omega) fun i hi hia => hz i (by omega) hia (by omega)]
    · rw [Sm_two hab (n := n) (by omega) (fun i hi => hz i (by omega)), hz n (by omega) (by omega) e, add_zero]
theorem Sm_shift (f : Nat → K) : ∀ n, Sm (n + 1) f = f 0 + Sm n (fun i => f (i + 1))
  | 0 => by simp only [Sm, add_zero, zero_add]
  | n + 1 => by
    have := Sm_shift f n
    simp only [Sm] at this ⊢
    rw [this, add_assoc]
theorem Sm_split (f : Nat → K) (a : Nat) : ∀ b, Sm (a + b) f = Sm a f + Sm b (fun i => f (a + i))
  | 0 => by simp only [Sm, Nat.add_zero, add_zero]
  | b + 1 => by rw [← Nat.add_assoc]; simp only [Sm]; rw [Sm_split f a b, add_assoc]

/-! ### Matrices -/

abbrev Mt (K : Type) := Nat → Nat → K
def mm (n : Nat) (A B : Mt K) : Mt K := fun i j => Sm n fun k => A i k * B k j
def idm : Mt K := fun i j => if i = j then 1 else 0
def tr (A : Mt K) : Mt K := fun i j => A j i

theorem mm_assoc (m n : Nat) (A B C : Mt K) : mm m (mm n A B) C = mm n A (mm m B C) := by
  funext i j
  show Sm m (fun k => Sm n (fun l => A i l * B l k) * C k j) = Sm n (fun l => A i l * Sm m (fun k => B l k * C k j))
  rw [Sm_congr (g := fun k => Sm n fun l => A i l * (B l k * C k j)) fun k _ => by rw [← Sm_mulr]; exact Sm_congr fun l _ => mul_assoc _ _ _, Sm_comm]
  exact Sm_congr fun l _ => Sm_mul _ _ _
theorem mm_congr {n : Nat} {A A' B B' : Mt K} {i j : Nat} (h1 : ∀ k, k < n → A i k = A' i k) (h2 : ∀ k, k < n → B k j = B' k j) : mm n A B i j = mm n A' B' i j :=
  Sm_congr fun k hk => by rw [h1 k hk, h2 k hk]
theorem mm_id {n : Nat} {A : Mt K} {i j : Nat} (hi : i < n) : mm n idm A i j = A i j := by
  unfold mm
  rw [Sm_single hi fun k _ hk => by unfold idm; rw [if_neg (Ne.symm hk), zero_mul]]
  unfold idm; rw [if_pos rfl, one_mul]
theorem mm_idr {n : Nat} {A : Mt K} {i j : Nat} (hj : j < n) : mm n A idm i j = A i j := by
  unfold mm
  rw [Sm_single hj fun k _ hk => by unfold idm; rw [if_neg hk, mul_zero]]
  unfold idm; rw [if_pos rfl, mul_one]
theorem mm_tr (n : Nat) (A B : Mt K) : tr (mm n A B) = mm n (tr B) (tr A) := by
  funext i j
  exact Sm_congr fun k _ => mul_comm _ _

/-! ### The determinant -/

def sg (c : Nat) : K := if c % 2 = 1 then -1 else 1
theorem sg_succ (c : Nat) : (sg (c + 1) : K) = -sg c := by
  unfold sg
  by_cases h : c % 2 = 1
  · rw [if_pos h, if_neg (by omega), neg_neg]
  · rw [if_neg h, if_pos (by omega)]
def sk (c j : Nat) : Nat := if j < c then j else j + 1
def mi (A : Mt K) (c : Nat) : Mt K := fun i j => A (i + 1) (sk c j)
def dt : Nat → Mt K → K
  | 0, _ => 1
  | n + 1, A => Sm (n + 1) fun c => sg c * (A 0 c * dt n (mi A c))

theorem sk_lt {c j n : Nat} (hc : c < n + 1) (hj : j < n) : sk c j < n + 1 := by unfold sk; split <;> omega
theorem dt_congr : ∀ {n : Nat} {A B : Mt K}, (∀ i j, i < n → j < n → A i j = B i j) → dt n A = dt n B
  | 0, _, _, _ => rfl
  | n + 1, A, B, h => by
    simp only [dt]
    refine Sm_congr fun c hc => ?_
    rw [h 0 c (by omega) hc, dt_congr (A := mi A c) (B := mi B c) fun i j hi hj => h (i + 1) _ (by omega) (sk_lt hc hj)]

/-- The column j is replaced. -/
def cset (A : Mt K) (j : Nat) (u : Nat → K) : Mt K := fun i c => if c = j then u i else A i c

theorem dt_lin : ∀ {n : Nat} {A : Mt K} {j : Nat} {a b : K} {u v : Nat → K}, j < n → dt n (cset A j fun i => a * u i + b * v i) = a * dt n (cset A j u) + b * dt n (cset A j v)
  | 0, _, _, _, _, _, _, h => by omega
  | n + 1, A, j, a, b, u, v, hj => by
    simp only [dt]
    rw [← Sm_mul, ← Sm_mul, ← Sm_add]
    refine Sm_congr fun c hc => ?_
    by_cases hcj : c = j
    · subst hcj
      have e : ∀ w, dt n (mi (cset A c w) c) = dt n (mi A c) := fun w => dt_congr fun i k hi hk => by
        show cset A c w (i + 1) (sk c k) = A (i + 1) (sk c k)
        unfold cset
        rw [if_neg (by unfold sk; split <;> omega)]
      rw [e, e, e]
      have e2 : ∀ w, cset A c w 0 c = w 0 := fun w => by unfold cset; rw [if_pos rfl]
      rw [e2, e2, e2, add_mul, mul_add]
      congr 1 <;> ac_rfl
    · have e : ∀ w : Nat → K, dt n (mi (cset A j w) c) = dt n (cset (mi A c) (if j < c then j else j - 1) fun i => w (i + 1)) := fun w => dt_congr fun i k hi hk => by
        show cset A j w (i + 1) (sk c k) = cset (mi A c) _ _ i k
        unfold cset mi
        by_cases h1 : sk c k = j
        · rw [if_pos h1, if_pos (by unfold sk at h1; split at h1 <;> split <;> omega)]
        · rw [if_neg h1, if_neg (by unfold sk at h1; split at h1 <;> split <;> omega)]
      have e2 : ∀ w, cset A j w 0 c = A 0 c := fun w => by unfold cset; rw [if_neg hcj]
      rw [e, e, e, e2, e2, e2, dt_lin (n := n) (by split <;> omega), mul_add, mul_add]
      congr 1 <;> ac_rfl

theorem dt_adj : ∀ {n : Nat} {A : Mt K} {j : Nat}, j + 1 < n → (∀ i, i < n → A i j = A i (j + 1)) → dt n A = 0
  | 0, _, _, h, _ => by omega
  | n + 1, A, j, hj, h => by
    simp only [dt]
    rw [Sm_two (a := j) (b := j + 1) (by omega) hj]
    · rw [dt_congr (A := mi A (j + 1)) (B := mi A j) fun i k hi hk => ?_, ← h 0 (by omega), sg_succ, neg_mul, add_neg]
      show A (i + 1) (sk (j + 1) k) = A (i + 1) (sk j k)
      unfold sk
      by_cases h1 : k < j
      · rw [if_pos (by omega), if_pos h1]
      · by_cases h2 : k = j
        · subst h2; rw [if_pos (by omega), if_neg h1]; exact h (i + 1) (by omega)
        · rw [if_neg (by omega), if_neg h1]
    · intro c hc h1 h2
      have : dt n (mi A c) = 0 := by
        by_cases hcj : c < j
        · refine dt_adj (j := j - 1) (by omega) fun i hi => ?_
          show A (i + 1) (sk c (j - 1)) = A (i + 1) (sk c (j - 1 + 1))
          rw [show sk c (j - 1) = j by unfold sk; split <;> omega, show sk c (j - 1 + 1) = j + 1 by unfold sk; split <;> omega]
          exact h (i + 1) (by omega)
        · refine dt_adj (j := j) (by omega) fun i hi => ?_
          show A (i + 1) (sk c j) = A (i + 1) (sk c (j + 1))
          rw [show sk c j = j by unfold sk; split <;> omega, show sk c (j + 1) = j + 1 by unfold sk; split <;> omega]
          exact h (i + 1) (by omega)
      rw [this, mul_zero, mul_zero]

theorem cset_same {K : Type} (A : Mt K) (j : Nat) : cset A j (fun i => A i j) = A := by
  funext i c; unfold cset; split
  · rename_i h; rw [h]
  · rfl
theorem cset_cset {K : Type} (A : Mt K) (j : Nat) (u v : Nat → K) : cset (cset A j u) j v = cset A j v := by
  funext i c; unfold cset; split <;> rfl
theorem cset_comm {K : Type} (A : Mt K) {j k : Nat} (h : j ≠ k) (u v : Nat → K) : cset (cset A j u) k v = cset (cset A k v) j u := by
  funext i c; unfold cset
  by_cases h1 : c = k
  · rw [if_pos h1, if_neg (by omega), if_pos h1]
  · rw [if_neg h1]
    by_cases h2 : c = j
    · rw [if_pos h2, if_pos h2]
    · rw [if_neg h2, if_neg h2, if_neg h1]

theorem dt_addc {n : Nat} {A : Mt K} {j : Nat} {u v : Nat → K} (hj : j < n) : dt n (cset A j fun i => u i + v i) = dt n (cset A j u) + dt n (cset A j v) := by
  have := dt_lin (A := A) (a := 1) (b := 1) (u := u) (v := v) hj
  simpa only [one_mul] using this
theorem dt_mulc {n : Nat} {A : Mt K} {j : Nat} {a : K} {u : Nat → K} (hj : j < n) : dt n (cset A j fun i => a * u i) = a * dt n (cset A j u) := by
  have := dt_lin (A := A) (a := a) (b := 0) (u := u) (v := u) hj
  simpa only [zero_mul, add_zero] using this
theorem dt_zeroc {n : Nat} {A : Mt K} {j : Nat} (hj : j < n) (h : ∀ i, i < n → A i j = 0) : dt n A = 0 := by
  have := dt_mulc (A := A) (a := 0) (u := fun i => A i j) hj
  rw [zero_mul] at this
  rw [← this]
  refine dt_congr fun i c hi hc => ?_
  unfold cset
  split
  · rename_i hh
    show A i c = 0 * A i j
    rw [hh, h i hi, zero_mul]
  · rfl

/-- Two columns hold u and v. -/
def c2 (A : Mt K) (j k : Nat) (u v : Nat → K) : Mt K := cset (cset A j u) k v
/-- If equal columns j, k always give 0, an exchange negates. -/
theorem dt_swap_of {n : Nat} {A : Mt K} {j k : Nat} (hjk : j ≠ k) (hj : j < n) (hk : k < n) (z : ∀ B : Mt K, (∀ i, i < n → B i j = B i k) → dt n B = 0) (u v : Nat → K) :
    dt n (c2 A j k u v) = -dt n (c2 A j k v u) := by
  have zz : ∀ w : Nat → K, dt n (c2 A j k w w) = 0 := fun w => z _ fun i hi => by
    unfold c2 cset; rw [if_neg hjk, if_pos rfl, if_pos rfl]
  have e := zz fun i => u i + v i
  unfold c2 at e zz ⊢
  rw [dt_addc hk, cset_comm _ hjk, dt_addc hj, cset_comm _ hjk (fun i => u i + v i), dt_addc hj, ← cset_comm _ hjk, ← cset_comm _ hjk, ← cset_comm _ hjk, ← cset_comm _ hjk, zz u, zz v, add_zero, zero_add] at e
  rw [add_comm] at e
  exact eq_neg e

theorem dt_eqc {n : Nat} : ∀ (d : Nat) {A : Mt K} {j : Nat}, j + d + 1 < n → (∀ i, i < n → A i j = A i (j + d + 1)) → dt n A = 0
  | 0, A, j, hj, h => dt_adj hj h
  | d + 1, A, j, hj, h => by
    have s := dt_swap_of (n := n) (A := A) (j := j + d + 1) (k := j + d + 1 + 1) (by omega) (by omega) (by omega) (fun B hB => dt_adj (j := j + d + 1) (by omega) hB) (fun i => A i (j + d + 1)) (fun i => A i (j + d + 1 + 1))
    have e : c2 A (j + d + 1) (j + d + 1 + 1) (fun i => A i (j + d + 1)) (fun i => A i (j + d + 1 + 1)) = A := by
      unfold c2; rw [cset_same]; exact cset_same A _
    rw [e] at s
    rw [s, dt_eqc d (j := j) (by omega), neg_zero]
    intro i hi
    unfold c2 cset
    rw [if_neg (by omega), if_neg (by omega), if_neg (by omega), if_pos rfl]
    exact h i hi

theorem dt_eq {n : Nat} {A : Mt K} {j k : Nat} (hjk : j ≠ k) (hj : j < n) (hk : k < n) (h : ∀ i, i < n → A i j = A i k) : dt n A = 0 := by
  rcases Nat.lt_or_gt_of_ne hjk with hl | hl
  · obtain ⟨d, rfl⟩ : ∃ d, k = j + d + 1 := ⟨k - j - 1, by omega⟩
    exact dt_eqc d hk h
  · obtain ⟨d, rfl⟩ : ∃ d, j = k + d + 1 := ⟨j - k - 1, by omega⟩
    exact dt_eqc d hj fun i hi => (h i hi).symm
theorem dt_swap {n : Nat} {A : Mt K} {j k : Nat} (hjk : j ≠ k) (hj : j < n) (hk : k < n) (u v : Nat → K) : dt n (c2 A j k u v) = -dt n (c2 A j k v u) :=
  dt_swap_of hjk hj hk (fun B hB => dt_eq hjk hj hk hB) u v

/-- The identity. -/
theorem dt_id : ∀ n, dt n (idm : Mt K) = 1
  | 0 => rfl
  | n + 1 => by
    simp only [dt]
    rw [Sm_single (k := 0) (by omega) fun c _ hc => by unfold idm; rw [if_neg (Ne.symm hc), zero_mul, mul_zero]]
    rw [dt_congr (B := idm) fun i j _ _ => ?_, dt_id n]
    · unfold sg idm; rw [if_neg (by omega), if_pos rfl, one_mul, mul_one]
    · show idm (i + 1) (sk 0 j) = idm i j
      rw [show sk 0 j = j + 1 by unfold sk; rw [if_neg (by omega)]]
      unfold idm
      by_cases h : i = j
      · rw [if_pos h, if_pos (by omega)]
      · rw [if_neg h, if_neg (by omega)]
end
end Go.LA
end

section
/- Linear algebra over a field: row operations, and what they do to determinants. No Go program in it. -/
set_option linter.unusedSimpArgs false
set_option linter.unusedVariables false
namespace Go.LA
section
variable {K : Type} [Fld K]

def swapR (A : Mt K) (i j : Nat) : Mt K := fun a b => if a = i then A j b else if a = j then A i b else A a b
def scaleR (A : Mt K) (i : Nat) (x : K) : Mt K := fun a b => if a = i then x * A i b else A a b
def addR (A : Mt K) (i : Nat) (x : K) (j : Nat) : Mt K := fun a b => if a = i then A i b + x * A j b else A a b

/-- The second matrix of n rows comes out of the first by row operations; the determinant is multiplied by d. -/
inductive RE (n : Nat) : Mt K → Mt K → K → Prop
  | refl (A : Mt K) : RE n A A 1
  | cng {A B B' : Mt K} {d : K} (h : RE n A B d) (e : ∀ i, i < n → ∀ j, B i j = B' i j) : RE n A B' d
  | swap {A B : Mt K} {d : K} (h : RE n A B d) {i j : Nat} (hi : i < n) (hj : j < n) (hij : i ≠ j) : RE n A (swapR B i j) (-d)
  | scale {A B : Mt K} {d : K} (h : RE n A B d) {i : Nat} (hi : i < n) {x : K} (hx : x ≠ 0) : RE n A (scaleR B i x) (x * d)
  | add {A B : Mt K} {d : K} (h : RE n A B d) {i j : Nat} (hi : i < n) (hj : j < n) (hij : i ≠ j) (x : K) : RE n A (addR B i x j) d

section
variable {n : Nat} {A B C : Mt K} {d d' : K}

theorem RE.ne (h : RE n A B d) : d ≠ 0 := by
  induction h with
  | refl => exact one_ne
  | cng _ _ ih => exact ih
  | swap _ _ _ _ ih => exact neg_ne ih
  | scale _ _ hx ih => exact mul_ne hx ih
  | add _ _ _ _ _ ih => exact ih
theorem RE.trans (h : RE n A B d) (h2 : RE n B C d') : RE n A C (d' * d) := by
  induction h2 with
  | refl => rw [one_mul]; exact h
  | cng _ e ih => exact ih.cng e
  | swap _ hi hj hij ih => rw [neg_mul]; exact ih.swap hi hj hij
  | scale _ hi hx ih => rw [mul_assoc]; exact ih.scale hi hx
  | add _ hi hj hij x ih => exact ih.add hi hj hij x
theorem RE.ex (h : RE n A B d) (e : d = d') : RE n A B d' := e ▸ h
theorem RE.symm (h : RE n A B d) : ∃ d', RE n B A d' := by
  induction h with
  | refl => exact ⟨1, .refl A⟩
  | @cng B B' d _ e ih =>
    obtain ⟨d', h'⟩ := ih
    have : RE n B' B 1 := (RE.refl B').cng fun i hi j => (e i hi j).symm
    exact ⟨_, this.trans h'⟩
  | @swap B d _ i j hi hj hij ih =>
    obtain ⟨d', h'⟩ := ih
    refine ⟨_, RE.trans (((RE.refl (swapR B i j)).swap hi hj hij).cng fun a ha b => ?_) h'⟩
    unfold swapR
    try dsimp only
    by_cases h1 : a = i
    · subst h1; rw [if_pos rfl, if_neg (Ne.symm hij), if_pos rfl]
    · by_cases h2 : a = j
      · subst h2; rw [if_neg h1, if_pos rfl, if_pos rfl]
      · rw [if_neg h1, if_neg h2, if_neg h1, if_neg h2]
  | @scale B d _ i hi x hx ih =>
    obtain ⟨d', h'⟩ := ih
    refine ⟨_, RE.trans (((RE.refl (scaleR B i x)).scale hi (inv_ne hx)).cng fun a ha b => ?_) h'⟩
    unfold scaleR
    by_cases h1 : a = i
    · subst h1; rw [if_pos rfl, if_pos rfl, ← mul_assoc, inv_mul hx, one_mul]
    · rw [if_neg h1, if_neg h1]
  | @add B d _ i j hi hj hij x ih =>
    obtain ⟨d', h'⟩ := ih
    refine ⟨_, RE.trans (((RE.refl (addR B i x j)).add hi hj hij (-x)).cng fun a ha b => ?_) h'⟩
    unfold addR
    by_cases h1 : a = i
    · subst h1; rw [if_pos rfl, if_pos rfl, if_neg (Ne.symm hij), neg_mul, add_assoc, add_neg, add_zero]
    · rw [if_neg h1, if_neg h1]

/-- The operations are a matrix. -/
theorem RE.fac (h : RE n A B d) : ∃ T, RE n idm T d ∧ ∀ i, i < n → ∀ j, B i j = mm n T A i j := by
  induction h with
  | refl => exact ⟨idm, .refl _, fun i hi j => (mm_id hi).symm⟩
  | cng _ e ih =>
    obtain ⟨T, h1, h2⟩ := ih
    exact ⟨T, h1, fun i hi j => by rw [← e i hi j, h2 i hi j]⟩
  | @swap B d _ i j hi hj hij ih =>
    obtain ⟨T, h1, h2⟩ := ih
    refine ⟨_, h1.swap hi hj hij, fun a ha b => ?_⟩
    unfold swapR mm
    try dsimp only
    by_cases e1 : a = i
    · subst e1; rw [if_pos rfl, h2 _ hj]; exact Sm_congr fun k _ => by (try dsimp only) <;> rw [if_pos rfl]
    · by_cases e2 : a = j
      · subst e2; rw [if_neg e1, if_pos rfl, h2 _ hi]; exact Sm_congr fun k _ => by (try dsimp only) <;> rw [if_neg e1, if_pos rfl]
      · rw [if_neg e1, if_neg e2, h2 _ ha]; exact Sm_congr fun k _ => by (try dsimp only) <;> rw [if_neg e1, if_neg e2]
  | @scale B d _ i hi x hx ih =>
    obtain ⟨T, h1, h2⟩ := ih
    refine ⟨_, h1.scale hi hx, fun a ha b => ?_⟩
    unfold scaleR mm
    by_cases e1 : a = i
    · subst e1; rw [if_pos rfl, h2 _ hi]; unfold mm; rw [← Sm_mul]; exact Sm_congr fun k _ => by (try dsimp only) <;> rw [if_pos rfl, mul_assoc]
    · rw [if_neg e1, h2 _ ha]; exact Sm_congr fun k _ => by (try dsimp only) <;> rw [if_neg e1]
  | @add B d _ i j hi hj hij x ih =>
    obtain ⟨T, h1, h2⟩ := ih
    refine ⟨_, h1.add hi hj hij x, fun a ha b => ?_⟩
    unfold addR mm
    by_cases e1 : a = i
    · subst e1; rw [if_pos rfl, h2 _ hi, h2 _ hj]; unfold mm; rw [← Sm_mul, ← Sm_add]; exact Sm_congr fun k _ => by (try dsimp only) <;> rw [if_pos rfl, add_mul, mul_assoc]
    · rw [if_neg e1, h2 _ ha]; exact Sm_congr fun k _ => by (try dsimp only) <;> rw [if_neg e1]

/-- They can be undone. -/
theorem RE.inv (h : RE n A B d) : ∃ T S, RE n idm T d ∧ (∀ i, i < n → ∀ j, B i j = mm n T A i j) ∧ (∀ i, i < n → ∀ j, A i j = mm n S B i j) ∧
    (∀ i j, i < n → j < n → mm n T S i j = idm i j) ∧ (∀ i j, i < n → j < n → mm n S T i j = idm i j) := by
  obtain ⟨T, h1, h2⟩ := h.fac
  obtain ⟨d', h3⟩ := h1.symm
  obtain ⟨S, h4, h5⟩ := h3.fac
  obtain ⟨d2, h6⟩ := h4.symm
  obtain ⟨U, _, h7⟩ := h6.fac
  have hST : ∀ i j, i < n → j < n → mm n S T i j = idm i j := fun i j hi _ => (h5 i hi j).symm
  have hUT : ∀ i j, i < n → j < n → U i j = T i j := fun i j hi hj => by
    have e1 : mm n U (mm n S T) i j = U i j := by
      rw [mm_congr (A' := U) (B' := idm) (fun _ _ => rfl) fun k hk => hST k j hk hj, mm_idr hj]
    rw [← mm_assoc] at e1
    rw [← e1, mm_congr (A' := idm) (B' := T) (fun k hk => (h7 i hi k).symm) (fun _ _ => rfl), mm_id hi]
  refine ⟨T, S, h1, h2, fun i hi j => ?_, fun i j hi hj => ?_, hST⟩
  · rw [mm_congr (A' := S) (B' := mm n T A) (fun _ _ => rfl) fun k hk => h2 k hk j, ← mm_assoc, mm_congr (A' := idm) (B' := A) (fun k hk => hST i k hi hk) (fun _ _ => rfl), mm_id hi]
  · rw [mm_congr (A' := U) (B' := S) (fun k hk => (hUT i k hi hk).symm) (fun _ _ => rfl), ← h7 i hi j]
end

/-- The determinant of the matrix whose columns are A times the rows of C. -/
def hd (n : Nat) (A C : Mt K) : K := dt n (fun i a => Sm n fun k => A i k * C a k)

theorem RE.hd {n : Nat} {A C C' : Mt K} {d : K} (h : RE n C C' d) : hd n A C' = d * hd n A C := by
  induction h with
  | refl => rw [one_mul]
  | cng _ e ih => rw [← ih]; exact dt_congr fun i a hi ha => Sm_congr fun k _ => by (try dsimp only) <;> rw [e a ha]
  | @swap B d _ i j hi hj hij ih =>
    rw [neg_mul, ← ih]
    have s := dt_swap (A := fun i a => Sm n fun k => A i k * B a k) hij hi hj (fun x => Sm n fun k => A x k * B j k) (fun x => Sm n fun k => A x k * B i k)
    unfold LA.hd
    rw [dt_congr (B := c2 (fun i a => Sm n fun k => A i k * B a k) i j (fun x => Sm n fun k => A x k * B j k) (fun x => Sm n fun k => A x k * B i k)) fun x a _ _ => ?_, s]
    · congr 1
      refine dt_congr fun x a _ _ => ?_
      unfold c2 cset
      try dsimp only
      by_cases e1 : a = j
      · subst e1; rw [if_pos rfl]
      · by_cases e2 : a = i
        · subst e2; rw [if_neg e1, if_pos rfl]
        · rw [if_neg e1, if_neg e2]
    · unfold c2 cset swapR
      by_cases e1 : a = j
      · subst e1; rw [if_pos rfl]; exact Sm_congr fun k _ => by (try dsimp only) <;> rw [if_neg (Ne.symm hij), if_pos rfl]
      · by_cases e2 : a = i
        · subst e2; rw [if_neg e1, if_pos rfl]; exact Sm_congr fun k _ => by (try dsimp only) <;> rw [if_pos rfl]
        · rw [if_neg e1, if_neg e2]; exact Sm_congr fun k _ => by (try dsimp only) <;> rw [if_neg e2, if_neg e1]
  | @scale B d _ i hi x hx ih =>
    rw [mul_assoc, ← ih]
    have s := dt_mulc (A := fun i a => Sm n fun k => A i k * B a k) (a := x) (u := fun y => Sm n fun k => A y k * B i k) hi
    rw [cset_same (fun i a => Sm n fun k => A i k * B a k) i] at s
    unfold LA.hd
    rw [← s]
    refine dt_congr fun y a _ _ => ?_
    unfold cset scaleR
    try dsimp only
    by_cases e1 : a = i
    · subst e1; rw [if_pos rfl, ← Sm_mul]; exact Sm_congr fun k _ => by (try dsimp only) <;> rw [if_pos rfl, mul_left_comm]
    · rw [if_neg e1]; exact Sm_congr fun k _ => by (try dsimp only) <;> rw [if_neg e1]
  | @add B d _ i j hi hj hij x ih =>
    rw [← ih]
    have s := dt_lin (A := fun i a => Sm n fun k => A i k * B a k) (a := 1) (b := x) (u := fun y => Sm n fun k => A y k * B i k) (v := fun y => Sm n fun k => A y k * B j k) hi
    rw [cset_same (fun i a => Sm n fun k => A i k * B a k) i, one_mul, dt_eq (A := cset _ i fun y => Sm n fun k => A y k * B j k) hij hi hj fun y _ => (by
      unfold cset; rw [if_pos rfl, if_neg (Ne.symm hij)]), mul_zero, add_zero] at s
    unfold LA.hd
    rw [← s]
    refine dt_congr fun y a _ _ => ?_
    unfold cset addR
    try dsimp only
    by_cases e1 : a = i
    · subst e1; rw [if_pos rfl, one_mul, ← Sm_mul, ← Sm_add]; exact Sm_congr fun k _ => by (try dsimp only) <;> rw [if_pos rfl, mul_add, mul_left_comm x]
    · rw [if_neg e1]; exact Sm_congr fun k _ => by (try dsimp only) <;> rw [if_neg e1]

theorem hd_id {n : Nat} {C : Mt K} : hd n idm C = dt n (tr C) := dt_congr fun i a hi _ => mm_id (A := tr C) hi

/-! ### Reduced matrices -/

/-- The first c columns of R are reduced; p are the columns of the r pivots. -/
structure Rref (n c r : Nat) (p : Nat → Nat) (R : Mt K) : Prop where
  le : r ≤ n
  lt : ∀ i, i < r → p i < c
  mono : ∀ i j, i < j → j < r → p i < p j
  unit : ∀ i j, i < n → j < r → R i (p j) = if i = j then 1 else 0
  zero : ∀ i j, i < n → j < c → (r ≤ i ∨ j < p i) → R i j = 0

theorem Rref.start (n : Nat) (p : Nat → Nat) (R : Mt K) : Rref n 0 0 p R := ⟨by omega, fun i h => by omega, fun i j h h' => by omega, fun i j h h' => by omega, fun i j h h' => by omega⟩

/-- No pivot in the column c. -/
theorem Rref.skip {n c r : Nat} {p : Nat → Nat} {R : Mt K} (h : Rref n c r p R) (hz : ∀ i, r ≤ i → i < n → R i c = 0) : Rref n (c + 1) r p R := by
  refine ⟨h.le, fun i hi => by have := h.lt i hi; omega, h.mono, h.unit, fun i j hi hj hc => ?_⟩
  by_cases e : j = c
  · subst e
    by_cases hr : r ≤ i
    · exact hz i hr hi
    · have := h.lt i (by omega)
      rcases hc with hc | hc
      · exact absurd hc hr
      · omega
  · exact h.zero i j hi (by omega) hc

/-- A pivot in the column c, found in the row k. -/
def swp (R : Mt K) (r k : Nat) : Mt K := swapR R r k
def piv (R : Mt K) (r c : Nat) : Mt K := scaleR R r (Fld.inv (R r c))
def clr (R : Mt K) (r c m : Nat) : Mt K := fun a b => if a < m ∧ a ≠ r then R a b + -(R a c) * R r b else R a b

theorem swapR_self {K : Type} (R : Mt K) (r : Nat) : swapR R r r = R := by
  funext a b; unfold swapR
  by_cases h : a = r
  · subst h; rw [if_pos rfl]
  · rw [if_neg h, if_neg h]

theorem clr_RE {n : Nat} {R : Mt K} {r c : Nat} (hr : r < n) : ∀ m, m ≤ n → RE n R (clr R r c m) 1
  | 0, _ => (RE.refl R).cng fun i hi j => by unfold clr; rw [if_neg (by omega)]
  | m + 1, hm => by
    have ih := clr_RE (R := R) (c := c) hr m (by omega)
    by_cases e : m = r
    · refine ih.cng fun i hi j => ?_
      unfold clr
      by_cases h1 : i < m ∧ i ≠ r
      · rw [if_pos h1, if_pos (by omega)]
      · rw [if_neg h1, if_neg (by omega)]
    · refine (ih.add (i := m) (j := r) (by omega) hr e (-(R m c))).cng fun i hi j => ?_
      unfold addR
      by_cases h0 : i = m
      · subst h0
        rw [if_pos rfl]
        unfold clr
        rw [if_neg (by omega), if_neg (by omega), if_pos (by omega)]
      · rw [if_neg h0]
        unfold clr
        by_cases h1 : i < m ∧ i ≠ r
        · rw [if_pos h1, if_pos (by omega)]
        · rw [if_neg h1, if_neg (by omega)]

/-- The step of the elimination. -/
def stp (n : Nat) (R : Mt K) (r k c : Nat) : Mt K := clr (piv (swp R r k) r c) r c n

theorem stp_RE {n : Nat} {R : Mt K} {r k c : Nat} (hr : r ≤ k) (hk : k < n) (h0 : R k c ≠ 0) : RE n R (stp n R r k c) (Fld.inv (R k c) * (if k = r then 1 else -1)) := by
  have e0 : swp R r k r c = R k c := by unfold swp swapR; rw [if_pos rfl]
  have h1 : RE n R (swp R r k) (if k = r then 1 else -1) := by
    by_cases e : k = r
    · subst e; rw [if_pos rfl]; unfold swp; rw [swapR_self]; exact .refl R
    · rw [if_neg e]; exact (RE.refl R).swap (by omega) hk (Ne.symm e)
  have h2 := h1.scale (i := r) (by omega) (inv_ne h0)
  have h3 := clr_RE (R := piv (swp R r k) r c) (c := c) (show r < n by omega) n (Nat.le_refl _)
  have h4 := h2.trans (C := stp n R r k c) (d' := 1) (by unfold stp piv at *; rw [e0] at *; exact h3)
  rw [one_mul] at h4
  exact h4

theorem Rref.step {n c r k : Nat} {p p' : Nat → Nat} {R : Mt K} (h : Rref n c r p R) (hr : r ≤ k) (hk : k < n) (h0 : R k c ≠ 0) (hp : ∀ i, i < r → p' i = p i) (hpr : p' r = c) :
    Rref n (c + 1) (r + 1) p' (stp n R r k c) := by
  have e0 : swp R r k r c = R k c := by unfold swp swapR; rw [if_pos rfl]
  -- the pivot's row
  have hrow : ∀ j, stp n R r k c r j = Fld.inv (R k c) * R k j := fun j => by
    unfold stp clr
    rw [if_neg (by omega)]
    unfold piv scaleR
    rw [if_pos rfl, e0]
    unfold swp swapR
    try dsimp only
    rw [if_pos rfl]
  have hoth : ∀ i j, i < n → i ≠ r → stp n R r k c i j = swp R r k i j + -(swp R r k i c) * (Fld.inv (R k c) * R k j) := fun i j hi hir => by
    unfold stp clr
    rw [if_pos ⟨hi, hir⟩]
    unfold piv scaleR
    rw [if_neg hir, if_neg hir, if_pos rfl, e0]
    congr 3
    unfold swp swapR
    try dsimp only
    rw [if_pos rfl]
  -- rows below the pivots are zero in the earlier columns
  have hz : ∀ j, j < c → R k j = 0 := fun j hj => h.zero k j hk hj (.inl hr)
  have hsw : ∀ i j, i < n → i ≠ r → j < c → swp R r k i j = R i j := fun i j hi hir hj => by
    unfold swp swapR
    try dsimp only
    rw [if_neg hir]
    by_cases e : i = k
    · subst e; rw [if_pos rfl, h.zero r j (by omega) hj (.inl (Nat.le_refl _)), h.zero i j hi hj (.inl hr)]
    · rw [if_neg e]
  refine ⟨by omega, fun i hi => ?_, fun i j hij hj => ?_, fun i j hi hj => ?_, fun i j hi hj hc => ?_⟩
  · by_cases e : i = r
    · subst e; omega
    · rw [hp i (by omega)]; have := h.lt i (by omega); omega
  · by_cases e : j = r
    · subst e; rw [hpr, hp i hij]; exact h.lt i hij
    · rw [hp i (by omega), hp j (by omega)]; exact h.mono i j hij (by omega)
  · by_cases e : j = r
    · subst e
      rw [hpr]
      by_cases e2 : i = j
      · subst e2; rw [if_pos rfl, hrow, inv_mul h0]
      · rw [if_neg e2, hoth i c hi e2, inv_mul h0, mul_one, add_neg]
    · have hpj := h.lt j (by omega)
      rw [hp j (by omega)]
      by_cases e2 : i = r
      · subst e2; rw [if_neg (Ne.symm e), hrow, hz _ hpj, mul_zero]
      · rw [hoth i _ hi e2, hz _ hpj, mul_zero, mul_zero, add_zero, hsw i _ hi e2 hpj, h.unit i j hi (by omega)]
  · by_cases e2 : i = r
    · subst e2
      rw [hpr] at hc
      rw [hrow, hz j (by omega), mul_zero]
    · by_cases e : j = c
      · subst e
        rw [hoth i j hi e2, inv_mul h0, mul_one, add_neg]
      · have hjc : j < c := by omega
        rw [hoth i j hi e2, hz j hjc, mul_zero, mul_zero, add_zero, hsw i j hi e2 hjc]
        refine h.zero i j hi hjc ?_
        rcases hc with hc | hc
        · exact .inl (by omega)
        · by_cases hir : i < r
          · rw [hp i hir] at hc; exact .inr hc
          · exact .inl (by omega)

/-- Every matrix can be reduced. -/
theorem Rref.ex (n : Nat) (A : Mt K) : ∀ c, ∃ R d r p, RE n A R d ∧ Rref n c r p R
  | 0 => ⟨A, 1, 0, fun _ => 0, .refl A, Rref.start n _ A⟩
  | c + 1 => by
    obtain ⟨R, d, r, p, h1, h2⟩ := Rref.ex n A c
    by_cases hz : ∃ k, r ≤ k ∧ k < n ∧ R k c ≠ 0
    · obtain ⟨k, hr, hk, h0⟩ := hz
      exact ⟨_, _, r + 1, fun i => if i = r then c else p i, h1.trans (stp_RE hr hk h0), h2.step hr hk h0 (fun i hi => by rw [if_neg (by omega)]) (if_pos rfl)⟩
    · exact ⟨R, d, r, p, h1, h2.skip fun i hi hin => Classical.byContradiction fun hh => hz ⟨i, hi, hin, hh⟩⟩

theorem inc_ge {p : Nat → Nat} {r : Nat} (h : ∀ i j, i < j → j < r → p i < p j) : ∀ i, i < r → i ≤ p i
  | 0, _ => by omega
  | i + 1, hi => by have := inc_ge h i (by omega); have := h i (i + 1) (by omega) hi; omega
theorem inc_id {p : Nat → Nat} {r : Nat} (h : ∀ i j, i < j → j < r → p i < p j) (hr : ∀ i, i < r → p i < r) : ∀ k i, i + k + 1 = r → p i = i
  | 0, i, e => by have := inc_ge h i (by omega); have := hr i (by omega); omega
  | k + 1, i, e => by
    have := inc_id h hr k (i + 1) (by omega)
    have := inc_ge h i (by omega)
    have := h i (i + 1) (by omega) (by omega)
    omega
theorem Rref.rle {n c r : Nat} {p : Nat → Nat} {R : Mt K} (h : Rref n c r p R) : r ≤ c := by
  by_cases e : r = 0
  · omega
  · have := inc_ge h.mono (r - 1) (by omega)
    have := h.lt (r - 1) (by omega)
    omega
/-- A square matrix is reduced to the identity, or to one whose last row is zero. -/
theorem Rref.sq {n r : Nat} {p : Nat → Nat} {R : Mt K} (h : Rref n n r p R) : (r = n ∧ ∀ i j, i < n → j < n → R i j = idm i j) ∨ (r < n ∧ ∀ j, j < n → R (n - 1) j = 0) := by
  by_cases e : r = n
  · subst e
    refine .inl ⟨rfl, fun i j hi hj => ?_⟩
    have hp := inc_id h.mono h.lt (r - j - 1) j (by omega)
    have := h.unit i j hi hj
    rw [hp] at this
    exact this
  · have := h.le
    exact .inr ⟨by omega, fun j hj => h.zero (n - 1) j (by omega) hj (.inl (by omega))⟩

/-! ### The determinant of a product -/

theorem hd_mul {n : Nat} (A C : Mt K) : hd n A C = dt n A * dt n (tr C) := by
  obtain ⟨R, d, r, p, h1, h2⟩ := Rref.ex n C n
  have e1 := h1.hd (A := A)
  have e2 := h1.hd (A := idm)
  rw [hd_id, hd_id] at e2
  rcases h2.sq with ⟨_, hs⟩ | ⟨hlt, hs⟩
  · have g1 : hd n A R = dt n A := dt_congr fun i a hi ha => by
      rw [Sm_congr (g := fun k => A i k * idm a k) fun k hk => by rw [hs a k ha hk]]
      rw [Sm_congr (g := fun k => A i k * idm k a) fun k hk => by
        unfold idm
        by_cases e : a = k
        · rw [if_pos e, if_pos e.symm]
        · rw [if_neg e, if_neg (Ne.symm e)]]
      exact mm_idr ha
    have g2 : dt n (tr R) = 1 := by
      rw [← dt_id n]
      refine dt_congr fun i j hi hj => ?_
      show R j i = idm i j
      rw [hs j i hj hi]
      unfold idm
      by_cases e : j = i
      · rw [if_pos e, if_pos e.symm]
      · rw [if_neg e, if_neg (Ne.symm e)]
    rw [g1] at e1
    rw [g2] at e2
    refine mul_cancel h1.ne ?_
    rw [← e1, mul_left_comm, ← e2, mul_one]
  · have g1 : hd n A R = 0 := dt_zeroc (j := n - 1) (by omega) fun i hi => Sm_zeros fun k hk => by rw [hs k hk, mul_zero]
    have g2 : dt n (tr R) = 0 := dt_zeroc (j := n - 1) (by omega) fun i hi => hs i hi
    rw [g1] at e1
    rw [g2] at e2
    refine mul_cancel h1.ne ?_
    rw [← e1, mul_left_comm, ← e2, mul_zero]

theorem dt_mul {n : Nat} (A B : Mt K) : dt n (mm n A B) = dt n A * dt n B := hd_mul A (tr B)

/-- Row operations and the determinant. -/
theorem RE.dt {n : Nat} {A B : Mt K} {d : K} (h : RE n A B d) : dt n B = d * dt n A := by
  -- out of the identity
  have key : ∀ {T : Mt K} {d : K}, RE n idm T d → LA.dt n T = d := by
    intro T d h
    have : ∀ {I' T : Mt K} {d : K}, RE n I' T d → (∀ i j, i < n → j < n → I' i j = idm i j) → LA.dt n T = d := by
      intro I' T d h
      induction h with
      | refl => intro e; rw [dt_congr e, dt_id]
      | cng _ e ih => intro e2; rw [← ih e2]; exact dt_congr fun i j hi hj => (e i hi j).symm
      | @swap B d _ i j hi hj hij ih =>
        intro e
        rw [← ih e, dt_congr (B := mm n (swapR idm i j) B) fun a b ha hb => ?_, dt_mul]
        · rw [show LA.dt n (swapR (idm : Mt K) i j) = -1 from ?_, neg_one_mul]
          have s := dt_swap (A := (idm : Mt K)) hij hi hj (fun x => idm x j) (fun x => idm x i)
          rw [show c2 (idm : Mt K) i j (fun x => idm x i) (fun x => idm x j) = idm by unfold c2; rw [cset_same]; exact cset_same _ _, dt_id] at s
          refine Eq.trans ?_ s
          refine dt_congr fun a b ha hb => ?_
          unfold swapR c2 cset idm
          try dsimp only
          by_cases e1 : a = i
          · subst e1
            rw [if_pos rfl]
            by_cases e2 : b = j
            · subst e2; rw [if_pos rfl, if_pos rfl, if_pos rfl]
            · rw [if_neg (Ne.symm e2), if_neg e2]
              by_cases e3 : b = a
              · rw [if_pos e3, if_neg hij]
              · rw [if_neg e3, if_neg (Ne.symm e3)]
          · rw [if_neg e1]
            by_cases e4 : a = j
            · subst e4
              rw [if_pos rfl]
              by_cases e2 : b = a
              · rw [if_pos e2, if_neg (fun h => hij (h.trans e2)), if_neg e1]
              · rw [if_neg e2]
                by_cases e3 : b = i
                · subst e3; rw [if_pos rfl, if_pos rfl, if_pos rfl]
                · rw [if_neg e3, if_neg (Ne.symm e3), if_neg (Ne.symm e2)]
            · rw [if_neg e4]
              by_cases e2 : b = j
              · rw [if_pos e2, if_neg (fun h => e4 (h.trans e2)), if_neg e1]
              · rw [if_neg e2]
                by_cases e3 : b = i
                · rw [if_pos e3, if_neg (fun h => e1 (h.trans e3)), if_neg e4]
                · rw [if_neg e3]
        · have w1 : ∀ k, swapR (idm : Mt K) i j i k = idm j k := fun k => if_pos rfl
          have w2 : ∀ k, swapR (idm : Mt K) i j j k = idm i k := fun k => by unfold swapR; rw [if_neg (Ne.symm hij), if_pos rfl]
          have w3 : ∀ k, a ≠ i → a ≠ j → swapR (idm : Mt K) i j a k = idm a k := fun k h1 h2 => by unfold swapR; rw [if_neg h1, if_neg h2]
          by_cases e1 : a = i
          · subst e1
            rw [mm_congr (A' := fun _ k => idm j k) (B' := B) (fun k _ => w1 k) (fun _ _ => rfl)]
            unfold swapR; rw [if_pos rfl]; exact (mm_id (A := B) (j := b) hj).symm
          · by_cases e2 : a = j
            · subst e2
              rw [mm_congr (A' := fun _ k => idm i k) (B' := B) (fun k _ => w2 k) (fun _ _ => rfl)]
              unfold swapR; rw [if_neg e1, if_pos rfl]; exact (mm_id (A := B) (j := b) hi).symm
            · rw [mm_congr (A' := idm) (B' := B) (fun k _ => w3 k e1 e2) (fun _ _ => rfl), mm_id ha]
              unfold swapR; rw [if_neg e1, if_neg e2]
      | @scale B d _ i hi x hx ih =>
        intro e
        rw [← ih e, dt_congr (B := mm n (scaleR idm i x) B) fun a b ha hb => ?_, dt_mul]
        · rw [show LA.dt n (scaleR (idm : Mt K) i x) = x from ?_]
          have s := dt_mulc (A := (idm : Mt K)) (a := x) (u := fun y => idm y i) hi
          rw [cset_same, dt_id, mul_one] at s
          refine Eq.trans ?_ s
          refine dt_congr fun a b ha hb => ?_
          unfold scaleR cset idm
          try dsimp only
          by_cases e1 : a = i
          · subst e1
            rw [if_pos rfl]
            by_cases e2 : b = a
            · subst e2; rw [if_pos rfl, if_pos rfl]
            · rw [if_neg e2, if_neg (Ne.symm e2), mul_zero]
          · rw [if_neg e1]
            by_cases e2 : b = i
            · rw [if_pos e2, if_neg (fun h => e1 (h.trans e2)), if_neg e1, mul_zero]
            · rw [if_neg e2]
        · unfold scaleR
          by_cases e1 : a = i
          · subst e1; rw [if_pos rfl, ← mm_id (A := B) (j := b) hi]; unfold mm; rw [← Sm_mul]; exact Sm_congr fun k _ => by (try dsimp only) <;> rw [if_pos rfl, mul_assoc]
          · rw [if_neg e1, ← mm_id (A := B) (j := b) ha]; exact mm_congr (fun k _ => by (try dsimp only) <;> rw [if_neg e1]) (fun _ _ => rfl)
      | @add B d _ i j hi hj hij x ih =>
        intro e
        rw [← ih e, dt_congr (B := mm n (addR idm i x j) B) fun a b ha hb => ?_, dt_mul]
        · rw [show LA.dt n (addR (idm : Mt K) i x j) = 1 from ?_, one_mul]
          have s := dt_lin (A := (idm : Mt K)) (a := 1) (b := x) (u := fun y => idm y j) (v := fun y => idm y i) hj
          rw [cset_same, dt_id, one_mul, dt_eq (A := cset (idm : Mt K) j fun y => idm y i) (Ne.symm hij) hj hi fun y _ => (by
            unfold cset; rw [if_pos rfl, if_neg hij]), mul_zero, add_zero] at s
          refine Eq.trans ?_ s
          refine dt_congr fun a b ha hb => ?_
          unfold addR cset idm
          try dsimp only
          by_cases e1 : a = i
          · subst e1
            rw [if_pos rfl]
            by_cases e2 : b = j
            · subst e2; rw [if_pos rfl, if_pos rfl, if_pos rfl, one_mul]
            · rw [if_neg e2, if_neg (Ne.symm e2), mul_zero, add_zero]
          · rw [if_neg e1]
            by_cases e2 : b = j
            · rw [if_pos e2, one_mul, if_neg e1, mul_zero, add_zero, e2]
            · rw [if_neg e2]
        · unfold addR
          by_cases e1 : a = i
          · subst e1; rw [if_pos rfl, ← mm_id (A := B) (j := b) hi, ← mm_id (A := B) (j := b) hj]; unfold mm; rw [← Sm_mul, ← Sm_add]; exact Sm_congr fun k _ => by (try dsimp only) <;> rw [if_pos rfl, add_mul, mul_assoc]
          · rw [if_neg e1, ← mm_id (A := B) (j := b) ha]; exact mm_congr (fun k _ => by (try dsimp only) <;> rw [if_neg e1]) (fun _ _ => rfl)
    exact this h fun _ _ _ _ => rfl
  obtain ⟨T, h1, h2⟩ := h.fac
  rw [dt_congr (B := mm n T A) fun i j hi _ => h2 i hi j, dt_mul, key h1]

theorem dt_zeror {n : Nat} {A : Mt K} {i : Nat} (hi : i < n) (h : ∀ j, j < n → A i j = 0) : dt n A = 0 := by
  have e : dt n A = dt n (mm n (fun a b => if b = i then 0 else idm a b) A) := dt_congr fun a b ha hb => by
    rw [← mm_id (A := A) (j := b) ha]
    refine Sm_congr fun k hk => ?_
    by_cases e : k = i
    · subst e; rw [h b hb, mul_zero, mul_zero]
    · (try dsimp only) <;> rw [if_neg e]
  rw [e, dt_mul, dt_zeroc (A := fun a b => if b = i then 0 else idm a b) hi fun a _ => if_pos rfl, zero_mul]

theorem dt_tr {n : Nat} (A : Mt K) : dt n (tr A) = dt n A := by
  obtain ⟨R, d, r, p, h1, h2⟩ := Rref.ex n A n
  have e1 := h1.dt
  have e2 := h1.hd (A := idm)
  rw [hd_id, hd_id] at e2
  rcases h2.sq with ⟨_, hs⟩ | ⟨hlt, hs⟩
  · have g1 : dt n R = 1 := by rw [dt_congr hs, dt_id]
    have g2 : dt n (tr R) = 1 := by
      rw [← dt_id n]
      refine dt_congr fun i j hi hj => ?_
      show R j i = idm i j
      rw [hs j i hj hi]
      unfold idm
      by_cases e : j = i
      · rw [if_pos e, if_pos e.symm]
      · rw [if_neg e, if_neg (Ne.symm e)]
    refine mul_cancel h1.ne ?_
    rw [← e1, ← e2, g1, g2]
  · refine mul_cancel h1.ne ?_
    rw [← e1, ← e2, dt_zeror (show n - 1 < n by omega) hs, dt_zeroc (A := tr R) (show n - 1 < n by omega) fun i hi => hs i hi]
end
end Go.LA
end

section
/- Linear algebra over a field: spans, the reduced matrix is the only one, dimensions, kernels. No Go program in it. -/
set_option linter.unusedSimpArgs false
set_option linter.unusedVariables false
namespace Go.LA
section
variable {K : Type} [Fld K]

/-- On the first c columns v is a combination of the n rows of A. -/
def Sp (n c : Nat) (A : Mt K) (v : Nat → K) : Prop := ∃ t : Nat → K, ∀ j, j < c → v j = Sm n fun k => t k * A k j

theorem choose_fun {α : Type} {P : Nat → α → Prop} {n : Nat} (d : α) (h : ∀ i, i < n → ∃ x, P i x) : ∃ f : Nat → α, ∀ i, i < n → P i (f i) := by
  classical
  refine ⟨fun i => if hi : i < n then Classical.choose (h i hi) else d, fun i hi => ?_⟩
  simp only [hi, dite_true]
  exact Classical.choose_spec (h i hi)

theorem Sp.row {n c : Nat} {A : Mt K} {i : Nat} (hi : i < n) : Sp n c A (A i) := ⟨fun k => idm i k, fun j _ => (mm_id (A := A) hi).symm⟩
theorem Sp.cng {n c : Nat} {A : Mt K} {v w : Nat → K} (h : Sp n c A v) (e : ∀ j, j < c → v j = w j) : Sp n c A w := by
  obtain ⟨t, ht⟩ := h
  exact ⟨t, fun j hj => by rw [← e j hj, ht j hj]⟩
theorem Sp.cngA {n c : Nat} {A B : Mt K} {v : Nat → K} (h : Sp n c A v) (e : ∀ i j, i < n → j < c → A i j = B i j) : Sp n c B v := by
  obtain ⟨t, ht⟩ := h
  exact ⟨t, fun j hj => by rw [ht j hj]; exact Sm_congr fun k hk => by rw [e k j hk hj]⟩
theorem Sp.trans {n m c : Nat} {A B : Mt K} {v : Nat → K} (h : ∀ i, i < m → Sp n c A (B i)) (h2 : Sp m c B v) : Sp n c A v := by
  obtain ⟨X, hX⟩ := choose_fun (fun _ => 0) h
  obtain ⟨t, ht⟩ := h2
  refine ⟨fun k => Sm m fun i => t i * X i k, fun j hj => ?_⟩
  rw [ht j hj, Sm_congr (g := fun i => Sm n fun k => t i * (X i k * A k j)) fun i hi => by rw [hX i hi j hj, ← Sm_mul], Sm_comm]
  refine Sm_congr fun k hk => ?_
  rw [← Sm_mulr]
  exact Sm_congr fun i _ => (mul_assoc _ _ _).symm
theorem Sp.of_mm {n m c : Nat} {A B : Mt K} {T : Mt K} {i : Nat} (h : ∀ j, j < c → B i j = mm n T A i j) : Sp n c A (B i) := ⟨T i, h⟩
theorem RE.sp {n : Nat} {A B : Mt K} {d : K} (h : RE n A B d) (c : Nat) : (∀ i, i < n → Sp n c A (B i)) ∧ ∀ i, i < n → Sp n c B (A i) := by
  obtain ⟨T, S, _, h2, h3, _⟩ := h.inv
  exact ⟨fun i hi => ⟨T i, fun j _ => h2 i hi j⟩, fun i hi => ⟨S i, fun j _ => h3 i hi j⟩⟩

theorem Sm_ne {n : Nat} {f : Nat → K} (h : Sm n f ≠ 0) : ∃ i, i < n ∧ f i ≠ 0 := by
  apply Classical.byContradiction
  intro hh
  exact h (Sm_zeros fun i hi => Classical.byContradiction fun h2 => hh ⟨i, hi, h2⟩)

section
variable {n c r : Nat} {p : Nat → Nat} {R : Mt K}

theorem Rref.cut (h : Rref n c r p R) (t : Nat → K) {j : Nat} (hj : j < c) : (Sm n fun k => t k * R k j) = Sm r fun k => t k * R k j := by
  obtain ⟨e, rfl⟩ : ∃ e, n = r + e := ⟨n - r, by have := h.le; omega⟩
  rw [Sm_split, Sm_zeros (n := e) fun i hi => by rw [h.zero (r + i) j (by omega) hj (.inl (by omega)), mul_zero], add_zero]
theorem Rref.coef (h : Rref n c r p R) (t : Nat → K) {i : Nat} (hi : i < r) : (Sm r fun k => t k * R k (p i)) = t i := by
  have hle := h.le
  rw [Sm_single hi fun k hk hki => by rw [h.unit k i (by omega) hi, if_neg hki, mul_zero], h.unit i i (by omega) hi, if_pos rfl, mul_one]
/-- The coefficients of a combination are its entries at the pivots. -/
theorem Rref.comb (h : Rref n c r p R) {v : Nat → K} (hv : Sp n c R v) {j : Nat} (hj : j < c) : v j = Sm r fun i => v (p i) * R i j := by
  obtain ⟨t, ht⟩ := hv
  rw [ht j hj, h.cut t hj]
  refine Sm_congr fun i hi => ?_
  rw [ht (p i) (h.lt i hi), h.cut t (h.lt i hi), h.coef t hi]
theorem Rref.lead (h : Rref n c r p R) {v : Nat → K} (hv : Sp n c R v) {q : Nat} (hq : q < c) (h1 : v q ≠ 0) (hz : ∀ j, j < q → v j = 0) : ∃ i, i < r ∧ q = p i := by
  have hle := h.le
  have e := h.comb hv hq
  rw [e] at h1
  obtain ⟨i, hi, h2⟩ := Sm_ne h1
  refine ⟨i, hi, ?_⟩
  have h3 : v (p i) ≠ 0 := fun h0 => h2 (by rw [h0, zero_mul])
  have h4 : R i q ≠ 0 := fun h0 => h2 (by rw [h0, mul_zero])
  have h5 : ¬ q < p i := fun hl => h4 (h.zero i q (by omega) hq (.inr hl))
  have h6 : ¬ p i < q := fun hl => h3 (hz _ hl)
  omega
theorem Rref.sp_r (h : Rref n c r p R) {i : Nat} (hi : i < n) : Sp r c R (R i) := by
  refine ⟨fun k => R i (p k), fun j hj => h.comb (Sp.row hi) hj⟩
end

theorem inc_same {p p' : Nat → Nat} {r r' : Nat} (h : ∀ i j, i < j → j < r → p i < p j) (h' : ∀ i j, i < j → j < r' → p' i < p' j) (s : ∀ i, i < r → ∃ j, j < r' ∧ p i = p' j) (s' : ∀ i, i < r' → ∃ j, j < r ∧ p' i = p j) :
    ∀ n i, i < n → i < r → i < r' ∧ p i = p' i
  | 0, i, hn, _ => by omega
  | n + 1, i, hn, hi => by
    have ih := inc_same h h' s s' n
    obtain ⟨j, hj, e⟩ := s i hi
    have hij : i ≤ j := by
      apply Classical.byContradiction
      intro hh
      have h1 := (ih j (by omega) (by omega)).2
      have h2 := h j i (by omega) hi
      omega
    have hir : i < r' := by omega
    have hle : p' i ≤ p' j := by
      by_cases e2 : i = j
      · rw [e2]; exact Nat.le_refl _
      · have := h' i j (by omega) hj; omega
    obtain ⟨m, hm, e2⟩ := s' i hir
    have him : i ≤ m := by
      apply Classical.byContradiction
      intro hh
      have h1 := ih m (by omega) (by omega)
      have h2 := h' m i (by omega) hir
      omega
    have hle2 : p i ≤ p m := by
      by_cases e3 : i = m
      · rw [e3]; exact Nat.le_refl _
      · have := h i m (by omega) hm; omega
    exact ⟨hir, by omega⟩

/-- Reduced matrices with the same combinations are the same. -/
theorem Rref.uniq {n n' c r r' : Nat} {p p' : Nat → Nat} {R R' : Mt K} (h : Rref n c r p R) (h' : Rref n' c r' p' R') (s : ∀ i, i < r' → Sp n c R (R' i)) (s' : ∀ i, i < r → Sp n' c R' (R i)) :
    r = r' ∧ (∀ i, i < r → p i = p' i) ∧ ∀ i, i < r → ∀ j, j < c → R i j = R' i j := by
  have hle := h.le
  have hle' := h'.le
  have a1 : ∀ i, i < r → ∃ j, j < r' ∧ p i = p' j := fun i hi => h'.lead (s' i hi) (h.lt i hi) (by rw [h.unit i i (by omega) hi, if_pos rfl]; exact one_ne) fun j hj => h.zero i j (by omega) (by have := h.lt i hi; omega) (.inr hj)
  have a2 : ∀ i, i < r' → ∃ j, j < r ∧ p' i = p j := fun i hi => h.lead (s i hi) (h'.lt i hi) (by rw [h'.unit i i (by omega) hi, if_pos rfl]; exact one_ne) fun j hj => h'.zero i j (by omega) (by have := h'.lt i hi; omega) (.inr hj)
  have b1 := inc_same h.mono h'.mono a1 a2
  have b2 := inc_same h'.mono h.mono a2 a1
  have hr : r = r' := by
    apply Classical.byContradiction
    intro hh
    rcases Nat.lt_or_gt_of_ne hh with hl | hl
    · have := (b2 (r + 1) r (by omega) hl).1; omega
    · have := (b1 (r' + 1) r' (by omega) hl).1; omega
  subst hr
  have hp : ∀ i, i < r → p i = p' i := fun i hi => (b1 (i + 1) i (by omega) hi).2
  refine ⟨rfl, hp, fun i hi j hj => ?_⟩
  symm
  rw [h.comb (s i hi) hj, Sm_single hi fun k hk hki => by rw [hp k hk, h'.unit i k (by omega) hk, if_neg (Ne.symm hki), zero_mul], hp i hi, h'.unit i i (by omega) hi, if_pos rfl, one_mul]

/-- Independent rows. -/
def Ind (r c : Nat) (U : Mt K) : Prop := ∀ t : Nat → K, (∀ j, j < c → (Sm r fun i => t i * U i j) = 0) → ∀ i, i < r → t i = 0
theorem Rref.ind {n c r : Nat} {p : Nat → Nat} {R : Mt K} (h : Rref n c r p R) : Ind r c R := fun t ht i hi => by
  rw [← h.coef t hi]; exact ht _ (h.lt i hi)

theorem steinitz {r c k : Nat} {U V : Mt K} (hU : Ind r c U) (hs : ∀ i, i < r → Sp k c V (U i)) : r ≤ k := by
  apply Classical.byContradiction
  intro hlt
  obtain ⟨X, hX⟩ := choose_fun (fun _ => 0) hs
  obtain ⟨X', d, s, p, h1, h2⟩ := Rref.ex r X k
  have hsk := h2.rle
  obtain ⟨T, S, _, h3, _, h4, _⟩ := h1.inv
  have hz : ∀ l, l < k → mm r T X (r - 1) l = 0 := fun l hl => by
    rw [← h3 (r - 1) (by omega)]; exact h2.zero (r - 1) l (by omega) hl (.inl (by omega))
  have ht := hU (T (r - 1)) fun j hj => by
    rw [Sm_congr (g := fun i => Sm k fun l => T (r - 1) i * X i l * V l j) fun i hi => by rw [hX i hi j hj, ← Sm_mul]; exact Sm_congr fun l _ => (mul_assoc _ _ _).symm, Sm_comm]
    refine Sm_zeros fun l hl => ?_
    rw [Sm_mulr]
    have := hz l hl
    unfold mm at this
    rw [this, zero_mul]
  have := h4 (r - 1) (r - 1) (by omega) (by omega)
  unfold mm idm at this
  rw [if_pos rfl, Sm_zeros fun k hk => by rw [ht k hk, zero_mul]] at this
  exact one_ne this.symm

/-- The rank is that of the rows. -/
theorem Rref.rank_le {n c r k : Nat} {p : Nat → Nat} {R V : Mt K} (h : Rref n c r p R) (hs : ∀ i, i < r → Sp k c V (R i)) : r ≤ k := steinitz h.ind hs

/-! ### Kernels -/

/-- A sum over places that are zero off the places p. -/
theorem Sm_supp {p : Nat → Nat} : ∀ {c r : Nat} {f : Nat → K}, (∀ i j, i < j → j < r → p i < p j) → (∀ i, i < r → p i < c) → (∀ j, j < c → (∀ i, i < r → p i ≠ j) → f j = 0) → Sm c f = Sm r fun i => f (p i)
  | 0, r, f, hm, hl, hz => by
    have : r = 0 := Classical.byContradiction fun h => by have := hl 0 (by omega); omega
    subst this; rfl
  | c + 1, r, f, hm, hl, hz => by
    by_cases e : ∃ i, i < r ∧ p i = c
    · obtain ⟨i, hi, e⟩ := e
      have hir : i + 1 = r := by
        apply Classical.byContradiction
        intro hh
        have h1 := hm i (i + 1) (by omega) (by omega)
        have h2 := hl (i + 1) (by omega)
        omega
      subst hir
      simp only [Sm]
      rw [e, Sm_supp (c := c) (r := i) (f := f) (fun a b hab hb => hm a b hab (by omega)) (fun a ha => by have := hm a i ha (by omega); omega) fun j hj hh => hz j (by omega) fun a ha => by
        by_cases ea : a = i
        · subst ea; omega
        · exact hh a (by omega)]
    · simp only [Sm]
      rw [hz c (by omega) fun i hi h => e ⟨i, hi, h⟩, add_zero]
      exact Sm_supp (c := c) (r := r) hm (fun i hi => by
        have := hl i hi
        have : p i ≠ c := fun h => e ⟨i, hi, h⟩
        omega) fun j hj hh => hz j (by omega) hh

/-- The kernel's vector of the column q without a pivot. -/
structure KerV (r c : Nat) (p : Nat → Nat) (R : Mt K) (q : Nat) (x : Nat → K) : Prop where
  one : x q = 1
  piv : ∀ i, i < r → x (p i) = -(R i q)
  zero : ∀ j, j < c → j ≠ q → (∀ i, i < r → p i ≠ j) → x j = 0

/-- Products with the rows. -/
def dots (c : Nat) (u v : Nat → K) : K := Sm c fun j => u j * v j
theorem Sp.dots {n c : Nat} {A : Mt K} {v w : Nat → K} (h : Sp n c A v) (hz : ∀ i, i < n → LA.dots c (A i) w = 0) : LA.dots c v w = 0 := by
  obtain ⟨t, ht⟩ := h
  unfold LA.dots
  rw [Sm_congr (g := fun j => Sm n fun k => t k * (A k j * w j)) fun j hj => by rw [ht j hj, ← Sm_mulr]; exact Sm_congr fun k _ => mul_assoc _ _ _, Sm_comm]
  refine Sm_zeros fun k hk => ?_
  rw [Sm_mul]
  have := hz k hk
  unfold LA.dots at this
  rw [this, mul_zero]
theorem dots_comm (c : Nat) (u v : Nat → K) : dots c u v = dots c v u := Sm_congr fun j _ => mul_comm _ _

theorem KerV.orth {n r c : Nat} {p : Nat → Nat} {R : Mt K} (h : Rref n c r p R) {q : Nat} {x : Nat → K} (hx : KerV r c p R q x) (hq : q < c) (hqp : ∀ i, i < r → p i ≠ q) {i : Nat} (hi : i < r) : dots c (R i) x = 0 := by
  have hle := h.le
  unfold dots
  have e : ∀ j, j < c → R i j * x j = (if j = q then R i q else 0) + (if j = q then 0 else R i j * x j) := fun j _ => by
    by_cases h : j = q
    · subst h; rw [if_pos rfl, if_pos rfl, hx.one, mul_one, add_zero]
    · rw [if_neg h, if_neg h, zero_add]
  rw [Sm_congr e, Sm_add, Sm_single (k := q) hq (fun k _ hk => if_neg hk), if_pos rfl, Sm_supp (r := r) (p := p) h.mono h.lt fun j hj hh => ?_]
  · rw [Sm_single hi fun k hk hki => ?_]
    · rw [if_neg (hqp i hi), h.unit i i (by omega) hi, if_pos rfl, one_mul, hx.piv i hi, add_neg]
    · rw [if_neg (hqp k hk), h.unit i k (by omega) hk, if_neg (Ne.symm hki), zero_mul]
  · by_cases e2 : j = q
    · rw [if_pos e2]
    · rw [if_neg e2, hx.zero j hj e2 hh, mul_zero]

/-- Vectors of different columns are independent. -/
theorem KerV.ind {r c m : Nat} {p q : Nat → Nat} {R X : Mt K} (hx : ∀ l, l < m → KerV r c p R (q l) (X l)) (hq : ∀ l, l < m → q l < c ∧ ∀ i, i < r → p i ≠ q l) (hd : ∀ l l', l < m → l' < m → l ≠ l' → q l ≠ q l') : Ind m c X := fun t ht i hi => by
  have := ht (q i) (hq i hi).1
  rw [Sm_single hi fun k hk hki => by rw [(hx k hk).zero (q i) (hq i hi).1 (hd i k hi hk (Ne.symm hki)) (hq i hi).2, mul_zero], (hx i hi).one, mul_one] at this
  exact this

/-! ### Equations -/

/-- With a solution the rows without pivot have no right side. -/
theorem Rref.solv {n c r : Nat} {p : Nat → Nat} {R : Mt K} (h : Rref n c r p R) {b x : Nat → K} (hx : ∀ i, i < n → dots c (R i) x = b i) : ∀ i, r ≤ i → i < n → b i = 0 := fun i hr hi => by
  rw [← hx i hi]
  exact Sm_zeros fun j hj => by rw [h.zero i j hi hj (.inl hr), zero_mul]
/-- The solution at the pivots. -/
theorem Rref.sol {n c r : Nat} {p : Nat → Nat} {R : Mt K} (h : Rref n c r p R) {b y : Nat → K} (hb : ∀ i, r ≤ i → i < n → b i = 0) (hy : ∀ i, i < r → y (p i) = b i) (hz : ∀ j, j < c → (∀ i, i < r → p i ≠ j) → y j = 0) : ∀ i, i < n → dots c (R i) y = b i := fun i hi => by
  unfold dots
  rw [Sm_supp (r := r) (p := p) h.mono h.lt fun j hj hh => by rw [hz j hj hh, mul_zero]]
  by_cases hr : i < r
  · rw [Sm_single hr fun k hk hki => by rw [h.unit i k hi hk, if_neg (Ne.symm hki), zero_mul], h.unit i i hi hr, if_pos rfl, one_mul, hy i hr]
  · rw [Sm_zeros fun k hk => by rw [h.unit i k hi hk, if_neg (by omega), zero_mul], hb i (by omega) hi]
/-- Solutions stay under row operations, the right side as one more column. -/
theorem RE.sol {n c : Nat} {A B : Mt K} {d : K} (h : RE n A B d) {x : Nat → K} (hx : ∀ i, i < n → dots c (A i) x = A i c) : ∀ i, i < n → dots c (B i) x = B i c := by
  obtain ⟨T, h1, h2⟩ := h.fac
  intro i hi
  rw [h2 i hi c]
  unfold dots mm
  rw [Sm_congr (g := fun j => Sm n fun k => T i k * (A k j * x j)) fun j _ => by rw [h2 i hi j]; unfold mm; rw [← Sm_mulr]; exact Sm_congr fun k _ => mul_assoc _ _ _, Sm_comm]
  refine Sm_congr fun k hk => ?_
  rw [Sm_mul]
  have := hx k hk
  unfold dots at this
  rw [this]

/-! ### Inverses -/

/-- A matrix that is inverse on one side is so on the other one. -/
theorem inv_two {n : Nat} {A B : Mt K} (h : ∀ i j, i < n → j < n → mm n A B i j = idm i j) : ∀ i j, i < n → j < n → mm n B A i j = idm i j := by
  obtain ⟨R, d, r, p, h1, h2⟩ := Rref.ex n B n
  obtain ⟨T, S, _, h3, h4, h5, h6⟩ := h1.inv
  have hR : ∀ i j, i < n → j < n → R i j = idm i j := by
    rcases h2.sq with ⟨_, hs⟩ | ⟨hlt, hs⟩
    · exact hs
    · have e1 := dt_mul (n := n) A B
      rw [dt_congr (B := idm) h, dt_id] at e1
      have e2 := h1.dt
      rw [dt_zeror (show n - 1 < n by omega) hs] at e2
      have : dt n B = 0 := mul_cancel h1.ne (by rw [← e2, mul_zero])
      rw [this, mul_zero] at e1
      exact absurd e1 one_ne
  -- B is S, A is T
  have hB : ∀ i j, i < n → j < n → B i j = S i j := fun i j hi hj => by
    rw [h4 i hi j, mm_congr (A' := S) (B' := idm) (fun _ _ => rfl) fun k hk => hR k j hk hj, mm_idr hj]
  have hA : ∀ i j, i < n → j < n → A i j = T i j := fun i j hi hj => by
    have e1 : mm n A (mm n S T) i j = A i j := by rw [mm_congr (A' := A) (B' := idm) (fun _ _ => rfl) fun k hk => h6 k j hk hj, mm_idr hj]
    rw [← mm_assoc] at e1
    rw [← e1, mm_congr (A' := idm) (B' := T) (fun k hk => ?_) (fun _ _ => rfl), mm_id hi]
    rw [← h i k hi hk]
    exact mm_congr (fun _ _ => rfl) fun l hl => (hB l k hl hk).symm
  intro i j hi hj
  rw [← h6 i j hi hj]
  exact mm_congr (fun k hk => hB i k hi hk) fun k hk => hA k j hk hj
end
end Go.LA
end

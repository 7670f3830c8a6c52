/- Algebra of residues: vectors of m whole numbers, the shift by X modulo a monic polynomial, products, all modulo p. No Go program in it. -/
set_option linter.unusedSimpArgs false
set_option linter.unusedVariables false
namespace Go.FM

def S : Nat → (Nat → Int) → Int
  | 0, _ => 0
  | n + 1, f => S n f + f n

theorem S_congr {f g : Nat → Int} : ∀ {n : Nat}, (∀ i, i < n → f i = g i) → S n f = S n g
  | 0, _ => rfl
  | n + 1, h => by
    simp only [S]
    rw [S_congr (n := n) (fun i hi => h i (by omega)), h n (by omega)]

theorem S_add (f g : Nat → Int) : ∀ n, S n (fun i => f i + g i) = S n f + S n g
  | 0 => rfl
  | n + 1 => by simp only [S, S_add f g n]; omega

theorem S_sub (f g : Nat → Int) : ∀ n, S n (fun i => f i - g i) = S n f - S n g
  | 0 => rfl
  | n + 1 => by simp only [S, S_sub f g n]; omega

theorem S_mul (c : Int) (f : Nat → Int) : ∀ n, S n (fun i => c * f i) = c * S n f
  | 0 => by simp [S]
  | n + 1 => by simp only [S, S_mul c f n, Int.mul_add]

theorem S_mulr (c : Int) (f : Nat → Int) (n : Nat) : S n (fun i => f i * c) = S n f * c := by
  simp only [Int.mul_comm _ c, S_mul]

theorem S_zero : ∀ n, S n (fun _ => 0) = 0
  | 0 => rfl
  | n + 1 => by simp only [S, S_zero n]; rfl

theorem S_comm (f : Nat → Nat → Int) (n : Nat) : ∀ m, S n (fun i => S m (fun j => f i j)) = S m (fun j => S n (fun i => f i j))
  | 0 => by simp only [S, S_zero]
  | m + 1 => by simp only [S, S_add, S_comm f n m]

theorem S_single {f : Nat → Int} {k : Nat} : ∀ {n : Nat}, k < n → (∀ i, i < n → i ≠ k → f i = 0) → S n f = f k
  | 0, h, _ => by omega
  | n + 1, h, hz => by
    simp only [S]
    by_cases e : n = k
    · subst e
      rw [S_congr (g := fun _ => 0) (fun i hi => hz i (by omega) (by omega)), S_zero]; omega
    · rw [S_single (n := n) (by omega) (fun i hi => hz i (by omega)), hz n (by omega) e]; omega

theorem S_dvd {p : Int} {f g : Nat → Int} : ∀ {n : Nat}, (∀ i, i < n → p ∣ f i - g i) → p ∣ S n f - S n g
  | 0, _ => by simp [S]
  | n + 1, h => by
    simp only [S]
    have h1 := S_dvd (n := n) (fun i hi => h i (by omega))
    have h2 := h n (by omega)
    have := Int.dvd_add h1 h2
    rwa [show S n f + f n - (S n g + g n) = S n f - S n g + (f n - g n) by omega]

abbrev V := Nat → Int

section
variable (m : Nat) (mo : V)

/-- Times X. -/
def T (v : V) : V := fun j => (if j = 0 then 0 else v (j - 1)) - v (m - 1) * mo j

def Tn : Nat → V → V
  | 0, v => v
  | n + 1, v => T m mo (Tn n v)

def e (k : Nat) : V := fun j => if j = k then 1 else 0

def mul (a b : V) : V := fun j => S m (fun i => b i * Tn m mo i a j)

theorem T_add (u v : V) : T m mo (fun j => u j + v j) = fun j => T m mo u j + T m mo v j := by
  funext j; simp only [T]; split <;> grind
theorem T_smul (c : Int) (v : V) : T m mo (fun j => c * v j) = fun j => c * T m mo v j := by
  funext j; simp only [T]; split <;> grind
theorem T_zero : T m mo (fun _ => 0) = fun _ => 0 := by
  funext j; simp only [T]; split <;> grind
theorem T_S (f : Nat → V) : ∀ n, T m mo (fun j => S n (fun i => f i j)) = fun j => S n (fun i => T m mo (f i) j)
  | 0 => by simp only [S]; exact T_zero m mo
  | n + 1 => by
    simp only [S]
    rw [T_add, T_S f n]

theorem Tn_add (u v : V) : ∀ n, Tn m mo n (fun j => u j + v j) = fun j => Tn m mo n u j + Tn m mo n v j
  | 0 => rfl
  | n + 1 => by simp only [Tn, Tn_add u v n, T_add]
theorem Tn_smul (c : Int) (v : V) : ∀ n, Tn m mo n (fun j => c * v j) = fun j => c * Tn m mo n v j
  | 0 => rfl
  | n + 1 => by simp only [Tn, Tn_smul c v n, T_smul]
theorem Tn_S (f : Nat → V) (k : Nat) : ∀ n, Tn m mo n (fun j => S k (fun i => f i j)) = fun j => S k (fun i => Tn m mo n (f i) j)
  | 0 => rfl
  | n + 1 => by simp only [Tn, Tn_S f k n, T_S]
theorem Tn_Tn (v : V) (b : Nat) : ∀ a, Tn m mo a (Tn m mo b v) = Tn m mo (a + b) v
  | 0 => by simp only [Tn, Nat.zero_add]
  | a + 1 => by rw [Nat.add_right_comm]; simp only [Tn, Tn_Tn v b a]
theorem Tn_T (v : V) (a : Nat) : Tn m mo a (T m mo v) = T m mo (Tn m mo a v) := Tn_Tn m mo v 1 a

variable (p : Int)

/-- Equal modulo p at the first m places. -/
def Q (u v : V) : Prop := ∀ j, j < m → p ∣ u j - v j

variable {m mo p}

theorem Q.refl (u : V) : Q m p u u := fun j _ => by simp
theorem Q.of {u v : V} (h : ∀ j, j < m → u j = v j) : Q m p u v := fun j hj => by rw [h j hj]; simp
theorem Q.symm {u v : V} (h : Q m p u v) : Q m p v u := fun j hj => by
  have := Int.dvd_neg.2 (h j hj)
  rwa [show -(u j - v j) = v j - u j by omega] at this
theorem Q.trans {u v w : V} (h : Q m p u v) (h' : Q m p v w) : Q m p u w := fun j hj => by
  have := Int.dvd_add (h j hj) (h' j hj)
  rwa [show u j - v j + (v j - w j) = u j - w j by omega] at this
theorem Q.add {u v u' v' : V} (h : Q m p u v) (h' : Q m p u' v') : Q m p (fun j => u j + u' j) (fun j => v j + v' j) := fun j hj => by
  have := Int.dvd_add (h j hj) (h' j hj)
  show p ∣ u j + u' j - (v j + v' j)
  rwa [show u j - v j + (u' j - v' j) = u j + u' j - (v j + v' j) by omega] at this
theorem Q.smul {u v : V} (c : Int) (h : Q m p u v) : Q m p (fun j => c * u j) (fun j => c * v j) := fun j hj => by
  show p ∣ c * u j - c * v j
  rw [← Int.mul_sub]
  exact Int.dvd_mul_of_dvd_right (h j hj)

theorem Q.T (hm : 0 < m) {u v : V} (h : Q m p u v) : Q m p (FM.T m mo u) (FM.T m mo v) := fun j hj => by
  have h1 := h (m - 1) (by omega)
  have h2 : p ∣ (u (m - 1) - v (m - 1)) * mo j := Int.dvd_mul_of_dvd_left h1
  simp only [FM.T]
  split
  · have := Int.dvd_neg.2 h2
    rwa [show -((u (m - 1) - v (m - 1)) * mo j) = 0 - u (m - 1) * mo j - (0 - v (m - 1) * mo j) by grind] at this
  · have h3 := h (j - 1) (by omega)
    have := Int.dvd_sub h3 h2
    rwa [show u (j - 1) - v (j - 1) - (u (m - 1) - v (m - 1)) * mo j = u (j - 1) - u (m - 1) * mo j - (v (j - 1) - v (m - 1) * mo j) by grind] at this

theorem Q.Tn (hm : 0 < m) {u v : V} (h : Q m p u v) : ∀ n, Q m p (FM.Tn m mo n u) (FM.Tn m mo n v)
  | 0 => h
  | n + 1 => Q.T hm (Q.Tn hm h n)

theorem Q.mul (hm : 0 < m) {a a' b b' : V} (h : Q m p a a') (h' : Q m p b b') : Q m p (FM.mul m mo a b) (FM.mul m mo a' b') := fun j hj => by
  unfold FM.mul
  refine S_dvd fun i hi => ?_
  have h1 := h' i hi
  have h2 := Q.Tn (mo := mo) hm h i j hj
  have h3 : p ∣ (b i - b' i) * FM.Tn m mo i a j := Int.dvd_mul_of_dvd_left h1
  have h4 : p ∣ b' i * (FM.Tn m mo i a j - FM.Tn m mo i a' j) := Int.dvd_mul_of_dvd_right h2
  have := Int.dvd_add h3 h4
  rwa [show (b i - b' i) * FM.Tn m mo i a j + b' i * (FM.Tn m mo i a j - FM.Tn m mo i a' j) = b i * FM.Tn m mo i a j - b' i * FM.Tn m mo i a' j by grind] at this

theorem T_e {k : Nat} (hk : k + 1 < m) : Q m p (T m mo (e k)) (e (k + 1)) := Q.of fun j hj => by
  simp only [T, e]
  rw [if_neg (by omega : ¬ m - 1 = k)]
  by_cases h0 : j = 0
  · subst h0; simp
  · by_cases h1 : j = k + 1
    · subst h1; simp
    · rw [if_neg h0, if_neg (by omega), if_neg h1]; simp

theorem Tn_e (hm : 0 < m) : ∀ {k : Nat}, k < m → Q m p (Tn m mo k (e 0)) (e k)
  | 0, _ => Q.refl _
  | k + 1, hk => (Q.T hm (Tn_e hm (k := k) (by omega))).trans (T_e hk)

theorem decomp (v : V) : Q m p v (fun j => S m (fun i => v i * e i j)) := Q.of fun j hj => by
  rw [S_single hj (fun i _ hi => by simp [e, Ne.symm hi])]
  simp [e]

theorem S_Q {n : Nat} {f g : Nat → V} (h : ∀ i, i < n → Q m p (f i) (g i)) : Q m p (fun j => S n (fun i => f i j)) (fun j => S n (fun i => g i j)) :=
  fun j hj => S_dvd fun i hi => h i hi j hj

/-- A vector is the combination of the powers of X. -/
theorem decompT (hm : 0 < m) (v : V) : Q m p v (fun j => S m (fun i => v i * Tn m mo i (e 0) j)) :=
  (decomp v).trans (S_Q (f := fun i j => v i * e i j) fun i hi => ((Tn_e hm hi).symm).smul (v i))

theorem mul_e (hm : 0 < m) (a b : V) : Q m p (mul m mo a b) (fun j => S m (fun i => S m (fun k => b i * a k * Tn m mo (i + k) (e 0) j))) := by
  have h := Q.mul (mo := mo) hm (decompT (mo := mo) (p := p) hm a) (Q.refl b)
  refine h.trans (Q.of fun j hj => ?_)
  unfold mul
  refine S_congr fun i hi => ?_
  rw [Tn_S, ← S_mul]
  refine S_congr fun k hk => ?_
  rw [Tn_smul, Tn_Tn, Int.mul_assoc]

theorem mul_comm (hm : 0 < m) (a b : V) : Q m p (mul m mo a b) (mul m mo b a) := by
  refine (mul_e hm a b).trans (Q.trans (Q.of fun j hj => ?_) (mul_e hm b a).symm)
  rw [S_comm]
  refine S_congr fun i hi => S_congr fun k hk => ?_
  rw [Nat.add_comm k i, Int.mul_comm (b k)]

theorem mul_addl (a a' b : V) : mul m mo (fun j => a j + a' j) b = fun j => mul m mo a b j + mul m mo a' b j := by
  funext j
  unfold mul
  rw [← S_add]
  refine S_congr fun i hi => ?_
  rw [Tn_add, Int.mul_add]

theorem mul_smull (c : Int) (a b : V) : mul m mo (fun j => c * a j) b = fun j => c * mul m mo a b j := by
  funext j
  unfold mul
  rw [← S_mul]
  refine S_congr fun i hi => ?_
  rw [Tn_smul]
  grind

theorem mul_Sl (n : Nat) (f : Nat → V) (b : V) : mul m mo (fun j => S n (fun i => f i j)) b = fun j => S n (fun i => mul m mo (f i) b j) := by
  funext j
  unfold mul
  rw [S_comm]
  refine S_congr fun i hi => ?_
  rw [Tn_S, S_mul]

theorem Tn_mul (a b : V) (n : Nat) : Tn m mo n (mul m mo a b) = mul m mo (Tn m mo n a) b := by
  unfold mul
  rw [Tn_S]
  funext j
  refine S_congr fun i hi => ?_
  rw [Tn_smul, Tn_Tn, Tn_Tn, Nat.add_comm]

theorem mul_right_comm (a b c : V) : mul m mo (mul m mo a b) c = mul m mo (mul m mo a c) b := by
  have h : mul m mo (mul m mo a b) c = fun j => S m (fun k => mul m mo (fun j => c k * Tn m mo k a j) b j) := by
    funext j
    show S m (fun k => c k * Tn m mo k (mul m mo a b) j) = _
    refine S_congr fun k hk => ?_
    rw [Tn_mul, mul_smull]
  rw [h]
  rw [← mul_Sl]
  rfl

theorem mul_assoc (hm : 0 < m) (a b c : V) : Q m p (mul m mo (mul m mo a b) c) (mul m mo a (mul m mo b c)) := by
  have h1 := Q.mul (mo := mo) hm (mul_comm (mo := mo) (p := p) hm a b) (Q.refl c)
  rw [mul_right_comm b a c] at h1
  exact h1.trans (mul_comm hm _ _)

theorem mul_one (hm : 0 < m) (a : V) : Q m p (mul m mo a (e 0)) a := Q.of fun j hj => by
  unfold mul
  rw [S_single hm (fun i _ hi => by simp [e, hi])]
  simp [e, Tn]

theorem mul_zero (hm : 0 < m) (a : V) : Q m p (mul m mo a (fun _ => 0)) (fun _ => 0) := Q.of fun j hj => by
  unfold mul
  rw [S_congr (g := fun _ => 0) (fun i _ => by simp), S_zero]

end
end Go.FM

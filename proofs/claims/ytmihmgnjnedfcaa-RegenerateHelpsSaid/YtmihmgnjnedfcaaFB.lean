/- Numbers and their digits; sums, products of elements, powers. No Go program in it. -/
import Derived.Test.YtmihmgnjnedfcaaFA
set_option linter.unusedSimpArgs false
set_option linter.unusedVariables false
namespace Go.FM

/-- The m lowest digits. -/
def digs (p : Int) : Nat → Int → List Int
  | 0, _ => []
  | m + 1, x => x % p :: digs p m (x / p)

def val (p : Int) : List Int → Int
  | [] => 0
  | d :: l => d + p * val p l

/-- A list as a vector. -/
def vl (l : List Int) : V := fun j => l.getD j 0

/-- Its entries are residues. -/
def Dg (p : Int) (l : List Int) : Prop := ∀ x ∈ l, 0 ≤ x ∧ x < p

theorem digs_length (p : Int) : ∀ m x, (digs p m x).length = m
  | 0, _ => rfl
  | m + 1, x => by simp [digs, digs_length p m]

theorem digs_Dg {p : Int} (hp : 0 < p) : ∀ m x, Dg p (digs p m x)
  | 0, _ => by simp [digs, Dg]
  | m + 1, x => by
    intro y hy
    rcases List.mem_cons.1 hy with rfl | hy
    · exact ⟨Int.emod_nonneg _ (by omega), Int.emod_lt_of_pos _ hp⟩
    · exact digs_Dg hp m _ y hy

theorem val_digs {p : Int} (hp : 0 < p) : ∀ {m : Nat} {x : Int}, 0 ≤ x → x < p ^ m → val p (digs p m x) = x
  | 0, x, h0, h1 => by simp at h1; simp [digs, val]; omega
  | m + 1, x, h0, h1 => by
    have h2 : x / p < p ^ m := Int.ediv_lt_of_lt_mul hp (by rw [Int.pow_succ] at h1; exact h1)
    have h3 : 0 ≤ x / p := Int.ediv_nonneg h0 (by omega)
    simp only [digs, val, val_digs hp h3 h2]
    have := Int.emod_add_mul_ediv x p
    omega

theorem val_range {p : Int} (hp : 0 < p) : ∀ {l : List Int}, Dg p l → 0 ≤ val p l ∧ val p l < p ^ l.length
  | [], _ => by simp [val]
  | d :: l, h => by
    have h1 := h d (by simp)
    have h2 := val_range hp (l := l) fun x hx => h x (by simp [hx])
    simp only [val, List.length_cons, Int.pow_succ]
    have h3 : 0 ≤ p * val p l := Int.mul_nonneg (by omega) h2.1
    have h4 : p * (val p l + 1) ≤ p * p ^ l.length := Int.mul_le_mul_of_nonneg_left (by omega) (by omega)
    rw [Int.mul_comm (p ^ l.length)]
    rw [Int.mul_add] at h4
    omega

theorem digs_val {p : Int} (hp : 0 < p) : ∀ {l : List Int}, Dg p l → digs p l.length (val p l) = l
  | [], _ => rfl
  | d :: l, h => by
    have h1 := h d (by simp)
    have h2 := digs_val hp (l := l) fun x hx => h x (by simp [hx])
    simp only [val, List.length_cons, digs]
    rw [Int.add_mul_emod_self_left, Int.emod_eq_of_lt h1.1 h1.2, Int.add_mul_ediv_left _ _ (by omega), Int.ediv_eq_zero_of_lt h1.1 h1.2, Int.zero_add, h2]

theorem vl_range {p : Int} (hp : 0 < p) {l : List Int} (h : Dg p l) (j : Nat) : 0 ≤ vl l j ∧ vl l j < p := by
  unfold vl
  simp only [List.getD]
  by_cases hj : j < l.length
  · rw [List.getElem?_eq_getElem hj]
    exact h _ (List.getElem_mem hj)
  · rw [List.getElem?_eq_none (by omega)]
    exact ⟨by simp, by simpa using hp⟩

theorem dvd_eq {p x y : Int} (hx : 0 ≤ x ∧ x < p) (hy : 0 ≤ y ∧ y < p) (h : p ∣ x - y) : x = y := by
  have h1 := Int.emod_emod_of_dvd
  have := (Int.emod_eq_emod_iff_emod_sub_eq_zero).2 (Int.emod_eq_zero_of_dvd h)
  rwa [Int.emod_eq_of_lt hx.1 hx.2, Int.emod_eq_of_lt hy.1 hy.2] at this

theorem vl_ext {l l' : List Int} (hl : l.length = l'.length) (h : ∀ j, j < l.length → vl l j = vl l' j) : l = l' := by
  refine List.ext_getElem hl fun j h1 h2 => ?_
  have := h j h1
  simpa [vl, List.getD, h1, h2] using this

theorem Q_list {p : Int} (hp : 0 < p) {l l' : List Int} (h : Dg p l) (h' : Dg p l') {m : Nat} (hl : l.length = m) (hl' : l'.length = m) (hq : Q m p (vl l) (vl l')) : l = l' := by
  refine vl_ext (by omega) fun j hj => ?_
  exact dvd_eq (vl_range hp h j) (vl_range hp h' j) (hq j (by omega))

/-- The vector's residues. -/
def red (p : Int) (m : Nat) (v : V) : List Int := (List.range m).map fun j => v j % p

theorem red_length (p : Int) (m : Nat) (v : V) : (red p m v).length = m := by simp [red]
theorem red_Dg {p : Int} (hp : 0 < p) (m : Nat) (v : V) : Dg p (red p m v) := by
  intro x hx
  simp only [red, List.mem_map] at hx
  obtain ⟨j, _, rfl⟩ := hx
  exact ⟨Int.emod_nonneg _ (by omega), Int.emod_lt_of_pos _ hp⟩
theorem vl_red {p : Int} {m : Nat} {v : V} {j : Nat} (hj : j < m) : vl (red p m v) j = v j % p := by
  simp [vl, red, List.getD, hj]
theorem red_Q (p : Int) (m : Nat) (v : V) : Q m p (vl (red p m v)) v := fun j hj => by
  rw [vl_red hj]
  have h := Int.emod_add_mul_ediv (v j) p
  exact ⟨-(v j / p), by rw [Int.mul_neg]; omega⟩
theorem red_congr {p : Int} (hp : 0 < p) {m : Nat} {u v : V} (h : Q m p u v) : red p m u = red p m v :=
  Q_list hp (red_Dg hp m u) (red_Dg hp m v) (red_length ..) (red_length ..) ((red_Q p m u).trans (h.trans (red_Q p m v).symm))
theorem red_vl {p : Int} (hp : 0 < p) {l : List Int} (h : Dg p l) {m : Nat} (hl : l.length = m) : red p m (vl l) = l :=
  Q_list hp (red_Dg hp m _) h (red_length ..) hl (red_Q p m _)

/-- The number of a vector, the vector of a number. -/
def num (p : Int) (m : Nat) (v : V) : Int := val p (red p m v)
def vec (p : Int) (m : Nat) (x : Int) : V := vl (digs p m x)

theorem num_range {p : Int} (hp : 0 < p) (m : Nat) (v : V) : 0 ≤ num p m v ∧ num p m v < p ^ m := by
  have := val_range hp (red_Dg hp m v)
  rwa [red_length] at this
theorem digs_num {p : Int} (hp : 0 < p) (m : Nat) (v : V) : digs p m (num p m v) = red p m v := by
  have := digs_val hp (red_Dg hp m v)
  rwa [red_length] at this
theorem vec_num {p : Int} (hp : 0 < p) (m : Nat) (v : V) : Q m p (vec p m (num p m v)) v := by
  unfold vec
  rw [digs_num hp]
  exact red_Q p m v
theorem num_vec {p : Int} (hp : 0 < p) {m : Nat} {x : Int} (h0 : 0 ≤ x) (h1 : x < p ^ m) : num p m (vec p m x) = x := by
  unfold num vec
  rw [red_vl hp (digs_Dg hp m x) (digs_length ..), val_digs hp h0 h1]
theorem num_congr {p : Int} (hp : 0 < p) {m : Nat} {u v : V} (h : Q m p u v) : num p m u = num p m v := by
  unfold num
  rw [red_congr hp h]
theorem num_inj {p : Int} (hp : 0 < p) {m : Nat} {u v : V} (h : num p m u = num p m v) : Q m p u v :=
  (vec_num hp m u).symm.trans (h ▸ vec_num hp m v)

/-- A description of residues. -/
structure Ds where
  p : Nat
  m : Nat
  mo : List Int

namespace Ds
def pI (D : Ds) : Int := D.p
def q (D : Ds) : Nat := D.p ^ D.m
def R (D : Ds) (x : Int) : Prop := 0 ≤ x ∧ x < D.q
def moV (D : Ds) : V := vl D.mo
def ve (D : Ds) (x : Int) : V := vec D.p D.m x
def nu (D : Ds) (v : V) : Int := num D.p D.m v
def inn (D : Ds) (x : Int) : Int := if 0 ≤ x ∧ x < D.q then x else 0
def add (D : Ds) (x y : Int) : Int := D.nu fun j => D.ve (D.inn x) j + D.ve (D.inn y) j
def neg (D : Ds) (x : Int) : Int := D.nu fun j => -1 * D.ve (D.inn x) j
def mul (D : Ds) (x y : Int) : Int := D.nu (FM.mul D.m D.moV (D.ve (D.inn x)) (D.ve (D.inn y)))
def sub (D : Ds) (x y : Int) : Int := D.add x (D.neg y)
/-- What is asked of the numbers only. -/
structure Ok (D : Ds) : Prop where
  p2 : 2 ≤ D.p
  m1 : 1 ≤ D.m

variable {D : Ds}
theorem qI (D : Ds) : (D.q : Int) = (D.p : Int) ^ D.m := by simp [q]
theorem Ok.p0 (o : D.Ok) : (0 : Int) < D.p := by have := o.p2; omega
theorem Ok.q2 (o : D.Ok) : 2 ≤ D.q := by
  have h1 := o.p2
  have h2 := o.m1
  unfold q
  exact Nat.le_trans h1 (Nat.le_self_pow (by omega) _)
theorem Ok.q0 (o : D.Ok) : D.R 0 := ⟨by omega, by have := o.q2; omega⟩
theorem Ok.q1 (o : D.Ok) : D.R 1 := ⟨by omega, by have := o.q2; omega⟩
theorem Ok.nuR (o : D.Ok) (v : V) : D.R (D.nu v) := by
  have := num_range o.p0 D.m v
  unfold R nu
  rw [qI]; exact this
theorem Ok.innR (o : D.Ok) (x : Int) : D.R (D.inn x) := by
  unfold inn
  split
  · assumption
  · exact o.q0
theorem inn_of {x : Int} (h : D.R x) : D.inn x = x := if_pos h
theorem Ok.nuve (o : D.Ok) {x : Int} (h : D.R x) : D.nu (D.ve x) = x := by
  have h2 := h.2
  rw [qI] at h2
  exact num_vec o.p0 h.1 h2
theorem Ok.venu (o : D.Ok) (v : V) : Q D.m D.p (D.ve (D.nu v)) v := vec_num o.p0 D.m v
theorem Ok.nucongr (o : D.Ok) {u v : V} (h : Q D.m D.p u v) : D.nu u = D.nu v := num_congr o.p0 h
theorem Ok.nuinj (o : D.Ok) {u v : V} (h : D.nu u = D.nu v) : Q D.m D.p u v := num_inj o.p0 h
theorem Ok.ext (o : D.Ok) {x y : Int} (hx : D.R x) (hy : D.R y) (h : Q D.m D.p (D.ve x) (D.ve y)) : x = y := by
  rw [← o.nuve hx, ← o.nuve hy]; exact o.nucongr h

theorem Ok.addR (o : D.Ok) (x y : Int) : D.R (D.add x y) := o.nuR _
theorem Ok.negR (o : D.Ok) (x : Int) : D.R (D.neg x) := o.nuR _
theorem Ok.mulR (o : D.Ok) (x y : Int) : D.R (D.mul x y) := o.nuR _
theorem Ok.subR (o : D.Ok) (x y : Int) : D.R (D.sub x y) := o.nuR _
theorem Ok.inn_add (o : D.Ok) (x y : Int) : D.inn (D.add x y) = D.add x y := inn_of (o.addR x y)
theorem Ok.inn_mul (o : D.Ok) (x y : Int) : D.inn (D.mul x y) = D.mul x y := inn_of (o.mulR x y)
theorem Ok.inn_neg (o : D.Ok) (x : Int) : D.inn (D.neg x) = D.neg x := inn_of (o.negR x)
theorem Ok.inn_inn (o : D.Ok) (x : Int) : D.inn (D.inn x) = D.inn x := inn_of (o.innR x)

theorem ve_zero (D : Ds) (j : Nat) : D.ve 0 j = 0 := by
  have : ∀ m, ∀ j, vl (digs D.p m 0) j = 0 := by
    intro m
    induction m with
    | zero => intro j; simp [digs, vl]
    | succ m ih =>
      intro j
      cases j with
      | zero => simp [digs, vl]
      | succ j => have := ih j; simpa [digs, vl] using this
  exact this D.m j
theorem Ok.ve_one (o : D.Ok) : D.ve 1 = e 0 := by
  have hp := o.p2
  have hm := o.m1
  funext j
  obtain ⟨m, hm'⟩ : ∃ m, D.m = m + 1 := ⟨D.m - 1, by omega⟩
  unfold ve vec
  rw [hm']
  simp only [digs]
  have h1 : (1 : Int) % D.p = 1 := Int.emod_eq_of_lt (by omega) (by omega)
  have h2 : (1 : Int) / D.p = 0 := Int.ediv_eq_zero_of_lt (by omega) (by omega)
  rw [h1, h2]
  cases j with
  | zero => simp [vl, e]
  | succ j =>
    have : ∀ m, ∀ j, vl (digs D.p m 0) j = 0 := by
      intro m
      induction m with
      | zero => intro j; simp [digs, vl]
      | succ m ih =>
        intro j
        cases j with
        | zero => simp [digs, vl]
        | succ j => have := ih j; simpa [digs, vl] using this
    have := this m j
    simp only [vl, List.getD_cons_succ, e] at this ⊢
    rw [this]; simp

theorem Ok.add_comm (o : D.Ok) (x y : Int) : D.add x y = D.add y x := by
  unfold add
  congr 1; funext j; omega
theorem Ok.add_assoc (o : D.Ok) (x y z : Int) : D.add (D.add x y) z = D.add x (D.add y z) := by
  unfold add
  rw [inn_of (o.nuR _), inn_of (o.nuR _)]
  refine o.nucongr ?_
  have h1 := Q.add (o.venu fun j => D.ve (D.inn x) j + D.ve (D.inn y) j) (Q.refl (D.ve (D.inn z)))
  have h2 := Q.add (Q.refl (D.ve (D.inn x))) (o.venu fun j => D.ve (D.inn y) j + D.ve (D.inn z) j)
  refine h1.trans (Q.trans (Q.of fun j _ => ?_) h2.symm)
  omega
theorem Ok.zero_add (o : D.Ok) (x : Int) : D.add 0 x = D.inn x := by
  unfold add
  rw [inn_of o.q0]
  simp only [ve_zero, Int.zero_add]
  exact o.nuve (o.innR x)
theorem Ok.add_zero (o : D.Ok) (x : Int) : D.add x 0 = D.inn x := by rw [o.add_comm, o.zero_add]
theorem Ok.add_neg (o : D.Ok) (x : Int) : D.add x (D.neg x) = 0 := by
  unfold add neg
  rw [inn_of (o.nuR _)]
  have h := Q.add (Q.refl (D.ve (D.inn x))) (o.venu fun j => -1 * D.ve (D.inn x) j)
  rw [o.nucongr h, ← o.nuve o.q0]
  congr 1
  funext j
  rw [ve_zero]; omega

theorem Ok.mul_comm (o : D.Ok) (x y : Int) : D.mul x y = D.mul y x := o.nucongr (FM.mul_comm o.m1 _ _)
theorem Ok.mul_assoc (o : D.Ok) (x y z : Int) : D.mul (D.mul x y) z = D.mul x (D.mul y z) := by
  unfold mul
  rw [inn_of (o.nuR _), inn_of (o.nuR _)]
  refine o.nucongr ?_
  have h1 := Q.mul (mo := D.moV) o.m1 (o.venu (FM.mul D.m D.moV (D.ve (D.inn x)) (D.ve (D.inn y)))) (Q.refl (D.ve (D.inn z)))
  have h2 := Q.mul (mo := D.moV) o.m1 (Q.refl (D.ve (D.inn x))) (o.venu (FM.mul D.m D.moV (D.ve (D.inn y)) (D.ve (D.inn z))))
  exact h1.trans ((FM.mul_assoc o.m1 _ _ _).trans h2.symm)
theorem Ok.mul_one (o : D.Ok) (x : Int) : D.mul x 1 = D.inn x := by
  unfold mul
  rw [inn_of o.q1, o.ve_one, o.nucongr (FM.mul_one o.m1 _), o.nuve (o.innR x)]
theorem Ok.one_mul (o : D.Ok) (x : Int) : D.mul 1 x = D.inn x := by rw [o.mul_comm, o.mul_one]
theorem Ok.mul_zero (o : D.Ok) (x : Int) : D.mul x 0 = 0 := by
  unfold mul
  rw [inn_of o.q0]
  have : D.ve 0 = fun _ => 0 := funext (ve_zero D)
  rw [this, o.nucongr (FM.mul_zero o.m1 _), ← this, o.nuve o.q0]
theorem Ok.zero_mul (o : D.Ok) (x : Int) : D.mul 0 x = 0 := by rw [o.mul_comm, o.mul_zero]
theorem Ok.add_mul (o : D.Ok) (x y z : Int) : D.mul (D.add x y) z = D.add (D.mul x z) (D.mul y z) := by
  unfold mul add
  rw [inn_of (o.nuR _), inn_of (o.nuR _), inn_of (o.nuR _)]
  refine o.nucongr ?_
  have h1 := Q.mul (mo := D.moV) o.m1 (o.venu fun j => D.ve (D.inn x) j + D.ve (D.inn y) j) (Q.refl (D.ve (D.inn z)))
  rw [FM.mul_addl] at h1
  exact h1.trans (Q.add (o.venu _) (o.venu _)).symm
theorem Ok.mul_add (o : D.Ok) (x y z : Int) : D.mul x (D.add y z) = D.add (D.mul x y) (D.mul x z) := by
  rw [o.mul_comm, o.add_mul, o.mul_comm y, o.mul_comm z]
theorem inn_zero (o : D.Ok) : D.inn 0 = 0 := inn_of o.q0
theorem Ok.mul_inn (o : D.Ok) (x y : Int) : D.mul x (D.inn y) = D.mul x y := by unfold mul; rw [o.inn_inn]
theorem Ok.inn_mul' (o : D.Ok) (x y : Int) : D.mul (D.inn x) y = D.mul x y := by unfold mul; rw [o.inn_inn]
theorem Ok.add_inn (o : D.Ok) (x y : Int) : D.add x (D.inn y) = D.add x y := by unfold add; rw [o.inn_inn]
theorem Ok.inn_add' (o : D.Ok) (x y : Int) : D.add (D.inn x) y = D.add x y := by unfold add; rw [o.inn_inn]

/-- Powers. -/
def pw (D : Ds) (x : Int) : Nat → Int
  | 0 => 1
  | n + 1 => D.mul (D.pw x n) x
theorem Ok.pwR (o : D.Ok) (x : Int) : ∀ n, D.R (D.pw x n)
  | 0 => o.q1
  | n + 1 => o.mulR _ _
theorem Ok.pw_add (o : D.Ok) (x : Int) (a : Nat) : ∀ b, D.pw x (a + b) = D.mul (D.pw x a) (D.pw x b)
  | 0 => by simp only [Nat.add_zero, pw]; rw [o.mul_one, inn_of (o.pwR x a)]
  | b + 1 => by rw [← Nat.add_assoc]; simp only [pw]; rw [o.pw_add x a b, o.mul_assoc]
theorem Ok.pw_one (o : D.Ok) {x : Int} : D.pw x 1 = D.inn x := by simp only [pw]; rw [o.one_mul]

/-- x generates the nonzero residues. -/
structure Gen (D : Ds) (x : Int) : Prop where
  r : D.R x
  top : D.pw x (D.q - 1) = 1
  lt : ∀ n, 0 < n → n < D.q - 1 → D.pw x n ≠ 1

theorem pw_mul_q (o : D.Ok) {x : Int} {k : Nat} (ht : D.pw x k = 1) : ∀ n, D.pw x (k * n) = 1
  | 0 => rfl
  | n + 1 => by
    rw [Nat.mul_succ, o.pw_add, pw_mul_q o ht n, ht, o.mul_one, inn_of o.q1]

theorem Gen.mod (o : D.Ok) {x : Int} (g : D.Gen x) (n : Nat) : D.pw x n = D.pw x (n % (D.q - 1)) := by
  conv => lhs; rw [← Nat.div_add_mod n (D.q - 1)]
  rw [o.pw_add, pw_mul_q o g.top, o.one_mul, inn_of (o.pwR _ _)]

theorem Gen.ne0 (o : D.Ok) {x : Int} (g : D.Gen x) (n : Nat) : D.pw x n ≠ 0 := by
  intro h
  have h1 := pw_mul_q o g.top n
  have : D.pw x ((D.q - 1) * n) = 0 := by
    have h2 := o.q2
    have hle : n ≤ (D.q - 1) * n := Nat.le_mul_of_pos_left n (by omega)
    rw [show (D.q - 1) * n = n + ((D.q - 1) * n - n) by omega, o.pw_add, h, o.zero_mul]
  omega

theorem Gen.inj (o : D.Ok) {x : Int} (g : D.Gen x) {i j : Nat} (hi : i < D.q - 1) (hj : j < D.q - 1) (h : D.pw x i = D.pw x j) : i = j := by
  have aux : ∀ i j : Nat, i < j → j < D.q - 1 → D.pw x i = D.pw x j → False := by
    intro i j hij hj h
    have h1 : D.pw x (j - i) = 1 := by
      have e1 : D.pw x (i + (D.q - 1 - i)) = 1 := by rw [show i + (D.q - 1 - i) = D.q - 1 by omega]; exact g.top
      have e2 : D.pw x (j + (D.q - 1 - i)) = D.pw x (j - i) := by
        rw [show j + (D.q - 1 - i) = (j - i) + (D.q - 1) by omega, o.pw_add, g.top, o.mul_one, inn_of (o.pwR _ _)]
      rw [← e2, o.pw_add, ← h, ← o.pw_add, e1]
    exact g.lt (j - i) (by omega) (by omega) h1
  rcases Nat.lt_trichotomy i j with h1 | h1 | h1
  · exact (aux i j h1 hj h).elim
  · exact h1
  · exact (aux j i h1 hi h.symm).elim

/-- Without zero there are q - 1 residues: a list of that many different ones has them all. -/
theorem all_of_nodup : ∀ (n : Nat) (l : List Int), l.Nodup → (∀ x ∈ l, 0 < x ∧ x ≤ n) → n ≤ l.length → ∀ y : Int, 0 < y → y ≤ n → y ∈ l
  | 0, l, _, _, _, y, h1, h2 => by omega
  | n + 1, l, hd, hr, hl, y, h1, h2 => by
    have hm : ((n + 1 : Nat) : Int) ∈ l := by
      apply Classical.byContradiction
      intro hc
      have h3 : ∀ x ∈ l, 0 < x ∧ x ≤ (n : Int) := fun x hx => by
        have := hr x hx
        have : x ≠ ((n + 1 : Nat) : Int) := fun he => hc (he ▸ hx)
        omega
      cases l with
      | nil => simp at hl
      | cons a l =>
        have h4 := all_of_nodup n l (List.nodup_cons.1 hd).2 (fun x hx => h3 x (by simp [hx])) (by simp at hl; omega) a (h3 a (by simp)).1 (h3 a (by simp)).2
        exact (List.nodup_cons.1 hd).1 h4
    by_cases hy : y = ((n + 1 : Nat) : Int)
    · rw [hy]; exact hm
    · have h5 := all_of_nodup n (l.erase ((n + 1 : Nat) : Int)) (hd.erase _) (fun x hx => by
        have h6 := List.mem_of_mem_erase hx
        have h7 := hr x h6
        have h8 : x ≠ ((n + 1 : Nat) : Int) := fun he => by
          rw [he] at hx
          exact (List.Nodup.not_mem_erase hd) hx
        omega) (by rw [List.length_erase_of_mem hm]; omega) y h1 (by omega)
      exact List.mem_of_mem_erase h5

theorem Gen.all (o : D.Ok) {x : Int} (g : D.Gen x) {y : Int} (hy : D.R y) (h0 : y ≠ 0) : ∃ n, n < D.q - 1 ∧ D.pw x n = y := by
  have h2 := o.q2
  have := all_of_nodup (D.q - 1) ((List.range (D.q - 1)).map (D.pw x)) (by
      rw [List.Nodup, List.pairwise_map]
      refine List.Pairwise.imp_of_mem (R := fun a b => a ≠ b) ?_ List.nodup_range
      intro a b ha hb hab h
      exact hab (g.inj o (List.mem_range.1 ha) (List.mem_range.1 hb) h)) (by
      intro z hz
      obtain ⟨n, hn, rfl⟩ := List.mem_map.1 hz
      have h3 := o.pwR x n
      have h4 := g.ne0 o n
      unfold R at h3
      omega) (by simp) y (by have := hy.1; omega) (by have := hy.2; omega)
  obtain ⟨n, hn, rfl⟩ := List.mem_map.1 this
  exact ⟨n, List.mem_range.1 hn, rfl⟩

/-- No zero divisors where there is a generator. -/
theorem Gen.dom (o : D.Ok) {x : Int} (g : D.Gen x) {y z : Int} (hy : D.R y) (hz : D.R z) (hy0 : y ≠ 0) (hz0 : z ≠ 0) : D.mul y z ≠ 0 := by
  obtain ⟨a, _, rfl⟩ := g.all o hy hy0
  obtain ⟨b, _, rfl⟩ := g.all o hz hz0
  rw [← o.pw_add]
  exact g.ne0 o _
end Ds
end Go.FM

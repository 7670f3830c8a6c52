/- Sums and negatives by digits. No Go program in it. -/
import Derived.Test.YtmihmgnjnedfcaaFB
set_option linter.unusedSimpArgs false
set_option linter.unusedVariables false
namespace Go.FM

theorem red_cons (p : Int) (m : Nat) (v : V) : red p (m + 1) v = (v 0 % p) :: red p m (fun j => v (j + 1)) := by
  simp [red, List.range_succ_eq_map, Function.comp_def]
theorem red_snoc (p : Int) (m : Nat) (v : V) : red p (m + 1) v = red p m v ++ [v m % p] := by
  simp [red, List.range_succ]
theorem val_append (p : Int) : ∀ (l r : List Int), val p (l ++ r) = val p l + p ^ l.length * val p r
  | [], r => by simp [val]
  | d :: l, r => by
    have := val_append p l r
    simp only [List.cons_append, val, this, List.length_cons, Int.pow_succ]
    grind
theorem val_zeros (p : Int) : ∀ n, val p (List.replicate n 0) = 0
  | 0 => rfl
  | n + 1 => by simp [List.replicate_succ, val, val_zeros p n]
theorem red_ext {p : Int} {m : Nat} {u v : V} (h : ∀ j, j < m → u j % p = v j % p) : red p m u = red p m v := by
  unfold red
  exact List.map_congr_left fun j hj => h j (List.mem_range.1 hj)

theorem vl_cons_succ (d : Int) (l : List Int) (j : Nat) : vl (d :: l) (j + 1) = vl l j := by simp [vl]
theorem vl_cons_zero (d : Int) (l : List Int) : vl (d :: l) 0 = d := rfl

/-- Exclusive or adds the digits in base 2. -/
theorem digs_xor : ∀ (m x y : Nat), digs 2 m ((x ^^^ y : Nat) : Int) = red 2 m (fun j => vl (digs 2 m x) j + vl (digs 2 m y) j)
  | 0, _, _ => rfl
  | m + 1, x, y => by
    rw [red_cons]
    simp only [digs, vl_cons_zero, vl_cons_succ]
    have h1 : (x ^^^ y) % 2 = (x + y) % 2 := by
      have := Nat.xor_mod_two_eq_one (a := x) (b := y)
      omega
    have h2 := Nat.xor_div_two (a := x) (b := y)
    have ih := digs_xor m (x / 2) (y / 2)
    rw [← h2] at ih
    have e1 : ((x ^^^ y : Nat) : Int) / 2 = (((x ^^^ y) / 2 : Nat) : Int) := by simp
    have e2 : (x : Int) / 2 = ((x / 2 : Nat) : Int) := by simp
    have e3 : (y : Int) / 2 = ((y / 2 : Nat) : Int) := by simp
    rw [e1, e2, e3, ih]
    congr 1
    omega
end Go.FM

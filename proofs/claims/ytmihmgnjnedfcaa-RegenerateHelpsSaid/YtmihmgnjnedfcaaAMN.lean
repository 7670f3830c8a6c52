/- The logic AM: lists of whole numbers in memory, and what walking asks of them. No Go program in it. -/
import Derived.Test.YtmihmgnjnedfcaaAMM
import Derived.IntWalk
set_option linter.unusedSimpArgs false
set_option linter.unusedVariables false
namespace Go.AM
open Go

def ints (l : List Int) : List AV := l.map I

theorem w64 (n : Int) (h : -9223372036854775808 ≤ n ∧ n ≤ 9223372036854775807) : IntKind.i64.wrap n = n := IntWalk.i64_in n h

theorem ints_length (l : List Int) : (ints l).length = l.length := by simp [ints]
theorem ints_append (l m : List Int) : ints (l ++ m) = ints l ++ ints m := by simp [ints]
theorem ints_all (l : List Int) : (ints l).all one = true := by simp [ints, one]
theorem ints_drop (l : List Int) (n : Nat) : (ints l).drop n = ints (l.drop n) := by simp [ints, List.map_drop]
theorem ints_take (l : List Int) (n : Nat) : (ints l).take n = ints (l.take n) := by simp [ints, List.map_take]
theorem ints_nil : ints [] = [] := nr rfl
theorem ints_cons (x : Int) (l : List Int) : ints (x :: l) = I x :: ints l := nr rfl
theorem zeros_ints (n : Nat) : zeros n [I 0] = ints (List.replicate n 0) := by
  simp [zeros, ints]
theorem splice_ints (l : List Int) (i : Nat) (v : Int) (hi : i < l.length) : splice (ints l) i [I v] = ints (l.set i v) := by
  simp only [splice, ints, List.length_singleton]
  rw [List.set_eq_take_append_cons_drop, if_pos hi]
  simp [List.map_take, List.map_drop]

theorem hset_same (h : Hp) (b : Nat) (cs : List AV) : hset h b cs b = some cs := by simp [hset]
theorem hset_ne (h : Hp) {b c : Nat} (cs : List AV) (hbc : c ≠ b) : hset h b cs c = h c := by simp [hset, hbc]
theorem hset_hset (h : Hp) (b : Nat) (xs ys : List AV) : hset (hset h b xs) b ys = hset h b ys := by
  funext x
  simp only [hset]
  split <;> rfl
theorem keeps_nil (fr : Fr) (h h' : Hp) : keeps fr h h' [] = True := nr rfl

theorem iadrA_sl (b off len sz : Nat) (i : Int) : iadrA (.sl b off len sz) (I i) sz = if 0 ≤ i ∧ i < len then some (.ref b (off + i.toNat * sz)) else none := by simp [iadrA]
theorem iadrA_fs (n : Nat) (cells : List AV) (i : Int) (sz : Nat) : iadrA (.fs n cells) (I i) sz = if 0 ≤ i ∧ i < n then some (.fp (cells.drop (i.toNat * sz))) else none := nr rfl
theorem iadrA_nils (i : Int) (sz : Nat) : iadrA .nils (I i) sz = none := nr rfl
theorem fadrA_ref (b o k : Nat) : fadrA (.ref b o) k = some (.ref b (o + k)) := nr rfl
theorem fadrA_fp (cells : List AV) (k : Nat) : fadrA (.fp cells) k = some (.fp (cells.drop k)) := nr rfl
theorem cellsAt_fp (h : Hp) (cs : List AV) (n : Nat) : cellsAt h (.fp cs) n = if n ≤ cs.length then some (cs.take n) else none := nr rfl
theorem cellsAt_ref (h : Hp) (b off n : Nat) : cellsAt h (.ref b off) n = (match h b with
    | some cs => if off + n ≤ cs.length then some ((cs.drop off).take n) else none
    | none => none) := nr rfl
theorem ldv_agg (cs : List AV) : ldv cs true = some (.agg cs) := nr rfl
theorem ldv_one (v : AV) : ldv [v] false = some v := nr rfl
theorem stW_ref (b off n : Nat) (v : AV) (h : Hp) (K : Hp → Prop) : stW (.ref b off) v n h K = (match h b with
    | none => False
    | some cs => v.cells.length = n ∧ off + n ≤ cs.length ∧ v.cells.all one = true ∧ K (hset h b (splice cs off v.cells))) := nr rfl
theorem cells_base (v : Value) : (AV.base v).cells = [.base v] := nr rfl
theorem cells_agg (cs : List AV) : (AV.agg cs).cells = cs := nr rfl
theorem lenA_fs (n : Nat) (c : List AV) : lenA (.fs n c) = some n := nr rfl
theorem lenA_sl (b o n s : Nat) : lenA (.sl b o n s) = some n := nr rfl
theorem lenA_nils : lenA .nils = some 0 := nr rfl

/-- Reading a number out of a frozen list. -/
theorem take_ints (l : List Int) (i : Nat) (hi : i < l.length) : ((ints l).drop i).take 1 = [I l[i]] := by
  rw [ints_drop, List.drop_eq_getElem_cons hi]
  rfl
theorem cellsAt_ints (h : Hp) (l : List Int) (i : Nat) (hi : i < l.length) : cellsAt h (.fp ((ints l).drop i)) 1 = some [I l[i]] := by
  rw [cellsAt_fp, if_pos (by rw [List.length_drop, ints_length]; omega), take_ints l i hi]
theorem cellsAt_live (h : Hp) (b : Nat) (l : List Int) (i : Nat) (hb : h b = some (ints l)) (hi : i < l.length) : cellsAt h (.ref b i) 1 = some [I l[i]] := by
  rw [cellsAt_ref, hb]
  simp only
  rw [if_pos (by rw [ints_length]; omega), take_ints l i hi]

end Go.AM

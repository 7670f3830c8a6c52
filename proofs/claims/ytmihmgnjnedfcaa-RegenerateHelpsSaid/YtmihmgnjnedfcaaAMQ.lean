/- The logic AM: rules for walking that have no binder in them: what follows is not looked at before its turn. No Go program in it. -/
import Derived.Test.YtmihmgnjnedfcaaAMP
set_option linter.unusedSimpArgs false
set_option linter.unusedVariables false
namespace Go.AM
open Go

/-- What follows an operation. -/
def contA (P : Program) (k : Fr → Hp → Prop) (xs : List GOp) (fr : Fr) (d : Option Nat) : AV → Hp → Prop := fun v h => aops P k xs (updO fr d v) h
def bindR (o : Option AV) (R : AV → Hp → Prop) (h : Hp) : Prop := match o with
  | some v => R v h
  | none => False
def guardR (P : Program) (x : AV) (w : Bool) (g : GOp) (fr : Fr) (h : Hp) (R : AV → Hp → Prop) : Prop := guardW x w (eff P g fr h R) (R (.tup []) h)
def condR (P : Program) (x : AV) (a b : SC) (K : AE → Fr → Hp → Prop) (fr : Fr) (h : Hp) : Prop := condW x (awp P a K fr h) (awp P b K fr h)
def stR (x v : AV) (n : Nat) (h : Hp) (R : AV → Hp → Prop) : Prop := stW x v n h (R (.tup []))

section
variable {P : Program} {fr : Fr} {h : Hp} {K : AE → Fr → Hp → Prop} {R : AV → Hp → Prop} {m : Nat} {d : Option Nat} {kp : List (Nat × Nat)}

theorem aops_cons' (k : Fr → Hp → Prop) (x : GOp) (xs : List GOp) : aops P k (x :: xs) fr h = eff P x fr h (contA P k xs fr x.d) := nr rfl
theorem contA_ap (k : Fr → Hp → Prop) (xs : List GOp) (v : AV) : contA P k xs fr d v h = aops P k xs (updO fr d v) h := nr rfl
theorem bindR_some (v : AV) : bindR (some v) R h = R v h := nr rfl
theorem awp_cond' (c : SX) (a b : SC) : awp P (.cond c a b) K fr h = condR P (ev fr c) a b K fr h := nr rfl
theorem condR_true (a b : SC) : condR P (B true) a b K fr h = awp P a K fr h := by simp [condR, condW]
theorem condR_false (a b : SC) : condR P (B false) a b K fr h = awp P b K fr h := by simp [condR, condW]
theorem condR_if (p : Prop) [Decidable p] (a b : SC) : condR P (B (decide p)) a b K fr h = if p then awp P a K fr h else awp P b K fr h := by simp [condR, condW]
theorem guardR_tup (w : Bool) (g : GOp) : guardR P (.tup []) w g fr h R = R (.tup []) h := nr rfl
theorem guardR_true (g : GOp) : guardR P (B true) true g fr h R = eff P g fr h R := by simp [guardR, guardW]
theorem guardR_true' (g : GOp) : guardR P (B true) false g fr h R = R (.tup []) h := by simp [guardR, guardW]
theorem guardR_false (g : GOp) : guardR P (B false) false g fr h R = eff P g fr h R := by simp [guardR, guardW]
theorem guardR_false' (g : GOp) : guardR P (B false) true g fr h R = R (.tup []) h := by simp [guardR, guardW]
theorem e_guard' (s : Nat) (b : Bool) (x : SO) : eff P ⟨some (s, b), d, x, m, kp⟩ fr h R = guardR P (fr s) b ⟨none, d, x, m, kp⟩ fr h R := nr rfl
theorem e_st' (x v : SX) (n : Nat) : eff P ⟨none, d, .st x v n, m, []⟩ fr h R = stR (ev fr x) (ev fr v) n h R := by
  rw [e_st]
  unfold stR
  congr 1
  funext h'
  simp [keeps]

theorem e_pick' (c x y : SX) : eff P ⟨none, d, .pick c x y, m, kp⟩ fr h R = bindR (pickA (ev fr c) (ev fr x) (ev fr y)) R h := nr rfl
theorem e_ld' (x : SX) (n : Nat) (ag : Bool) : eff P ⟨none, d, .ld x n ag, m, kp⟩ fr h R = bindR ((cellsAt h (ev fr x) n).bind (ldv · ag)) R h := nr rfl
theorem e_bin' (op : BinOp) (x y : SX) : eff P ⟨none, d, .bin op x y, m, kp⟩ fr h R = bindR (binA op (ev fr x) (ev fr y)) R h := nr rfl
theorem e_isnil' (ne : Bool) (x : SX) : eff P ⟨none, d, .isnil ne x, m, kp⟩ fr h R = bindR ((isNil (ev fr x)).map fun r => .base (.bool (r != ne))) R h := nr rfl
theorem e_fadr' (x : SX) (k : Nat) : eff P ⟨none, d, .fadr x k, m, kp⟩ fr h R = bindR (fadrA (ev fr x) k) R h := nr rfl
theorem e_iadr' (x i : SX) (k : Nat) : eff P ⟨none, d, .iadr x i k, m, kp⟩ fr h R = bindR (iadrA (ev fr x) (ev fr i) k) R h := nr rfl
theorem e_iarr' (x i : SX) (n k : Nat) : eff P ⟨none, d, .iarr x i n k, m, kp⟩ fr h R = bindR (iarrA (ev fr x) (ev fr i) n k) R h := nr rfl
theorem e_len' (x : SX) : eff P ⟨none, d, .len x, m, kp⟩ fr h R = bindR ((lenA (ev fr x)).map fun (n : Nat) => .base (.int .i64 n)) R h := nr rfl
theorem e_build' (z : List AV) (ps : List (Nat × Nat × SX)) : eff P ⟨none, d, .build z ps, m, kp⟩ fr h R = bindR ((afill z (ps.map fun (a, b, x) => (a, b, ev fr x))).map .agg) R h := nr rfl
theorem e_mkf' (f : FuncId) (a b : List SX) : eff P ⟨none, d, .mkf f a b, m, kp⟩ fr h R = bindR (some (.fn f (a.map (ev fr)) (b.map (ev fr)))) R h := nr rfl
theorem e_nc' (x : SX) : eff P ⟨none, d, .nc x, m, kp⟩ fr h R = bindR (det (.nc x) fr h) R h := nr rfl
theorem e_not' (x : SX) : eff P ⟨none, d, .not x, m, kp⟩ fr h R = bindR (det (.not x) fr h) R h := nr rfl
theorem e_neg' (x : SX) : eff P ⟨none, d, .neg x, m, kp⟩ fr h R = bindR (det (.neg x) fr h) R h := nr rfl
theorem e_cvt' (k : IntKind) (x : SX) : eff P ⟨none, d, .cvt k x, m, kp⟩ fr h R = bindR (det (.cvt k x) fr h) R h := nr rfl
theorem e_slc' (x : SX) (lo hi mx : Option SX) (k : Nat) : eff P ⟨none, d, .slc x lo hi mx k, m, kp⟩ fr h R = bindR (det (.slc x lo hi mx k) fr h) R h := nr rfl
theorem e_fld' (x : SX) (k n : Nat) (ag : Bool) : eff P ⟨none, d, .fld x k n ag, m, kp⟩ fr h R = bindR (det (.fld x k n ag) fr h) R h := nr rfl
theorem e_ext' (x : SX) (i : Nat) : eff P ⟨none, d, .ext x i, m, kp⟩ fr h R = bindR (det (.ext x i) fr h) R h := nr rfl
theorem e_min' (x y : SX) : eff P ⟨none, d, .min x y, m, kp⟩ fr h R = bindR (det (.min x y) fr h) R h := nr rfl
theorem e_eqs' (ne : Bool) (n : Nat) (x y : SX) : eff P ⟨none, d, .eqs ne n x y, m, kp⟩ fr h R = bindR (det (.eqs ne n x y) fr h) R h := nr rfl

/-! ### Stores -/

theorem sr_at {b k n : Nat} {cs : List AV} {v : AV} (hb : h b = some cs) (h1 : v.cells.length = n) (h2 : k + n ≤ cs.length) (h3 : v.cells.all one = true) :
    stR (.ref b k) v n h R = R (.tup []) (hset h b (splice cs k v.cells)) := st_at hb h1 h2 h3
theorem sr_ints {b k : Nat} {l : List Int} {v : Int} (hb : h b = some (ints l)) (hk : k < l.length) :
    stR (.ref b k) (I v) 1 h R = R (.tup []) (hset h b (ints (l.set k v))) := st_ints_at hb hk
theorem sr_one {b k : Nat} {cs : List AV} {v : AV} (hb : h b = some cs) (hv : v.cells = [v]) (h1 : one v = true) (hk : k < cs.length) :
    stR (.ref b k) v 1 h R = R (.tup []) (hset h b (cs.set k v)) := st_one_at hb hv h1 hk
theorem sr_all {b n : Nat} {cs cs' : List AV} (hb : h b = some cs) (h1 : cs.length = n) (h2 : cs'.length = n) (h3 : cs'.all one = true) :
    stR (.ref b 0) (.agg cs') n h R = R (.tup []) (hset h b cs') := st_all_at hb h1 h2 h3
end
end Go.AM

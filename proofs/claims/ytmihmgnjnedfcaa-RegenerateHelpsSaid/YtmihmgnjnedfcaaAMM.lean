/- The logic AM: rules for walking. No Go program in it. -/
import Derived.Test.YtmihmgnjnedfcaaAML
set_option linter.unusedSimpArgs false
set_option linter.unusedVariables false
namespace Go.AM
open Go

abbrev I (n : Int) : AV := .base (.int .i64 n)
abbrev B (b : Bool) : AV := .base (.bool b)
abbrev ki (n : Int) : SX := .k (.base (.int .i64 n))
abbrev kb (b : Bool) : SX := .k (.base (.bool b))
abbrev o (d : Nat) (x : SO) : GOp := ⟨none, some d, x, 0, []⟩
abbrev om (m d : Nat) (x : SO) : GOp := ⟨none, some d, x, m, []⟩
abbrev og (s : Nat) (b : Bool) (m d : Nat) (x : SO) : GOp := ⟨some (s, b), some d, x, m, []⟩
abbrev os (x : SO) : GOp := ⟨none, none, x, 0, []⟩

/-- Keeps a rule from being taken as one that holds by computing. -/
theorem nr {α : Sort _} {a b : α} (h : a = b) : a = b := h

/-! What follows hangs on a value: the value is told first, then what follows. -/
def bindW (o : Option AV) (k : AV → Prop) : Prop := match o with
  | some v => k v
  | none => False
def condW (x : AV) (a b : Prop) : Prop := match x with
  | .base (.bool t) => if t then a else b
  | _ => False
def guardW (x : AV) (w : Bool) (a b : Prop) : Prop := match x with
  | .base (.bool t) => if t = w then a else b
  | .tup [] => b
  | _ => False
def allocW (o : Option (List AV × (Nat → AV))) (h : Hp) (R : AV → Hp → Prop) : Prop := match o with
  | some (cs, mk) => ∀ b, h b = none → R (mk b) (hset h b cs)
  | none => False
def pickA (c x y : AV) : Option AV := match c with
  | .base (.bool t) => some (if t then x else y)
  | _ => none

@[congr] theorem bindW_congr {o o' : Option AV} {k : AV → Prop} (h : o = o') : bindW o k = bindW o' k := by rw [h]
@[congr] theorem condW_congr {x x' : AV} {a b : Prop} (h : x = x') : condW x a b = condW x' a b := by rw [h]
@[congr] theorem guardW_congr {x x' : AV} {w : Bool} {a b : Prop} (h : x = x') : guardW x w a b = guardW x' w a b := by rw [h]
@[congr] theorem allocW_congr {o o' : Option (List AV × (Nat → AV))} {h : Hp} {R : AV → Hp → Prop} (e : o = o') : allocW o h R = allocW o' h R := by rw [e]
@[congr] theorem awp_congr {P : Program} {c : SC} {K : AE → Fr → Hp → Prop} {fr fr' : Fr} {h h' : Hp} (e1 : fr = fr') (e2 : h = h') : awp P c K fr h = awp P c K fr' h' := by rw [e1, e2]
@[congr] theorem appW_congr {s s' x x' : AV} {sz : Nat} {h h' : Hp} {R : AV → Hp → Prop} (e1 : s = s') (e2 : x = x') (e3 : h = h') : appW s x sz h R = appW s' x' sz h' R := by rw [e1, e2, e3]
@[congr] theorem cpyW_congr {s s' x x' : AV} {h h' : Hp} {R : AV → Hp → Prop} (e1 : s = s') (e2 : x = x') (e3 : h = h') : cpyW s x h R = cpyW s' x' h' R := by rw [e1, e2, e3]
@[congr] theorem stW_congr {s s' x x' : AV} {n : Nat} {h h' : Hp} {R : Hp → Prop} (e1 : s = s') (e2 : x = x') (e3 : h = h') : stW s x n h R = stW s' x' n h' R := by rw [e1, e2, e3]
@[congr] theorem Fz_congr {S : List Nat} {Q : Fr → Hp → Prop} {fr fr' : Fr} {h h' : Hp} (e1 : fr = fr') (e2 : h = h') : Fz S Q fr h = Fz S Q fr' h' := by rw [e1, e2]

theorem bindW_some (v : AV) (k : AV → Prop) : bindW (some v) k = k v := nr rfl
theorem condW_true (a b : Prop) : condW (B true) a b = a := by simp [condW]
theorem condW_false (a b : Prop) : condW (B false) a b = b := by simp [condW]
theorem condW_dec (p : Prop) [Decidable p] (a b : Prop) : condW (B (decide p)) a b = if p then a else b := by simp [condW]
theorem condW_ndec (p : Prop) [Decidable p] (a b : Prop) : condW (B (!decide p)) a b = if p then b else a := by
  by_cases hp : p <;> simp [condW, hp]
theorem guardW_tup (w : Bool) (a b : Prop) : guardW (.tup []) w a b = b := nr rfl
theorem guardW_true (a b : Prop) : guardW (B true) true a b = a := by simp [guardW]
theorem guardW_true' (a b : Prop) : guardW (B true) false a b = b := by simp [guardW]
theorem guardW_false (a b : Prop) : guardW (B false) false a b = a := by simp [guardW]
theorem guardW_false' (a b : Prop) : guardW (B false) true a b = b := by simp [guardW]
theorem allocW_some (cs : List AV) (mk : Nat → AV) (h : Hp) (R : AV → Hp → Prop) : allocW (some (cs, mk)) h R = ∀ b, h b = none → R (mk b) (hset h b cs) := nr rfl
theorem pickA_true (x y : AV) : pickA (B true) x y = some x := by simp [pickA]
theorem pickA_false (x y : AV) : pickA (B false) x y = some y := by simp [pickA]

section
variable {P : Program} {fr : Fr} {h : Hp} {K : AE → Fr → Hp → Prop} {R : AV → Hp → Prop} {m : Nat} {d : Option Nat} {kp : List (Nat × Nat)}

theorem awp_skip : awp P .skip K fr h = K .normal fr h := nr rfl
theorem awp_reg (ops : List GOp) : awp P (.reg ops) K fr h = aops P (K .normal) ops fr h := nr rfl
theorem awp_seq (a b : SC) : awp P (.seq a b) K fr h = awp P a (thenW (awp P b K) K) fr h := nr rfl
theorem awp_cond (c : SX) (a b : SC) : awp P (.cond c a b) K fr h = condW (ev fr c) (awp P a K fr h) (awp P b K fr h) := nr rfl
theorem awp_block (id : Nat) (c : SC) : awp P (.block id c) K fr h = awp P c (inBlk id K) fr h := nr rfl
theorem awp_exit (id : Nat) : awp P (.exit id) K fr h = K (.exit id) fr h := nr rfl
theorem awp_ret : awp P .ret K fr h = K .ret fr h := nr rfl
theorem awp_fz (S : List Nat) (c : SC) : awp P (.fz S c) K fr h = Fz S (awp P c K) fr h := nr rfl
theorem thenW_normal (k : Fr → Hp → Prop) : thenW k K .normal fr h = k fr h := nr rfl
theorem thenW_exit (k : Fr → Hp → Prop) (i : Nat) : thenW k K (.exit i) fr h = K (.exit i) fr h := nr rfl
theorem thenW_ret (k : Fr → Hp → Prop) : thenW k K .ret fr h = K .ret fr h := nr rfl
theorem inBlk_normal (id : Nat) : inBlk id K .normal fr h = K .normal fr h := nr rfl
theorem inBlk_exit (id i : Nat) : inBlk id K (.exit i) fr h = (if i = id then K .normal else K (.exit i)) fr h := nr rfl
theorem inBlk_ret (id : Nat) : inBlk id K .ret fr h = K .ret fr h := nr rfl
theorem aops_nil (k : Fr → Hp → Prop) : aops P k [] fr h = k fr h := nr rfl
theorem aops_cons (k : Fr → Hp → Prop) (x : GOp) (xs : List GOp) : aops P k (x :: xs) fr h = eff P x fr h (fun v h' => aops P k xs (updO fr x.d v) h') := nr rfl
theorem updO_some (d : Nat) (v : AV) : updO fr (some d) v = upd fr d v := nr rfl
theorem updO_none (v : AV) : updO fr none v = fr := nr rfl
theorem upd_apply (d : Nat) (v : AV) (i : Nat) : upd fr d v i = if i = d then v else fr i := nr rfl
theorem ev_t (n : Nat) : ev fr (.t n) = fr n := nr rfl
theorem ev_k (v : AV) : ev fr (.k v) = v := nr rfl
theorem ev_f (i : FuncId) : ev fr (.f i) = .fn i [] [] := nr rfl

theorem e_guard (s : Nat) (b : Bool) (x : SO) : eff P ⟨some (s, b), d, x, m, kp⟩ fr h R = guardW (fr s) b (eff P ⟨none, d, x, m, kp⟩ fr h R) (R (.tup []) h) := nr rfl
theorem e_mv (x : SX) : eff P ⟨none, d, .mv x, m, kp⟩ fr h R = R (ev fr x) h := nr rfl
theorem e_pick (c x y : SX) : eff P ⟨none, d, .pick c x y, m, kp⟩ fr h R = bindW (pickA (ev fr c) (ev fr x) (ev fr y)) (fun v => R v h) := nr rfl
theorem e_ld (x : SX) (n : Nat) (ag : Bool) : eff P ⟨none, d, .ld x n ag, m, kp⟩ fr h R = bindW ((cellsAt h (ev fr x) n).bind (ldv · ag)) (fun v => R v h) := nr rfl
theorem e_bin (op : BinOp) (x y : SX) : eff P ⟨none, d, .bin op x y, m, kp⟩ fr h R = bindW (binA op (ev fr x) (ev fr y)) (fun v => R v h) := nr rfl
theorem e_isnil (ne : Bool) (x : SX) : eff P ⟨none, d, .isnil ne x, m, kp⟩ fr h R = bindW ((isNil (ev fr x)).map fun r => .base (.bool (r != ne))) (fun v => R v h) := nr rfl
theorem e_fadr (x : SX) (k : Nat) : eff P ⟨none, d, .fadr x k, m, kp⟩ fr h R = bindW (fadrA (ev fr x) k) (fun v => R v h) := nr rfl
theorem e_iadr (x i : SX) (k : Nat) : eff P ⟨none, d, .iadr x i k, m, kp⟩ fr h R = bindW (iadrA (ev fr x) (ev fr i) k) (fun v => R v h) := nr rfl
theorem e_iarr (x i : SX) (n k : Nat) : eff P ⟨none, d, .iarr x i n k, m, kp⟩ fr h R = bindW (iarrA (ev fr x) (ev fr i) n k) (fun v => R v h) := nr rfl
theorem e_len (x : SX) : eff P ⟨none, d, .len x, m, kp⟩ fr h R = bindW ((lenA (ev fr x)).map fun (n : Nat) => .base (.int .i64 n)) (fun v => R v h) := nr rfl
theorem e_build (z : List AV) (ps : List (Nat × Nat × SX)) : eff P ⟨none, d, .build z ps, m, kp⟩ fr h R = bindW ((afill z (ps.map fun (a, b, x) => (a, b, ev fr x))).map .agg) (fun v => R v h) := nr rfl
theorem e_mkf (f : FuncId) (a b : List SX) : eff P ⟨none, d, .mkf f a b, m, kp⟩ fr h R = bindW (some (.fn f (a.map (ev fr)) (b.map (ev fr)))) (fun v => R v h) := nr rfl
theorem e_nc (x : SX) : eff P ⟨none, d, .nc x, m, kp⟩ fr h R = bindW (det (.nc x) fr h) (fun v => R v h) := nr rfl
theorem e_not (x : SX) : eff P ⟨none, d, .not x, m, kp⟩ fr h R = bindW (det (.not x) fr h) (fun v => R v h) := nr rfl
theorem e_neg (x : SX) : eff P ⟨none, d, .neg x, m, kp⟩ fr h R = bindW (det (.neg x) fr h) (fun v => R v h) := nr rfl
theorem e_cvt (k : IntKind) (x : SX) : eff P ⟨none, d, .cvt k x, m, kp⟩ fr h R = bindW (det (.cvt k x) fr h) (fun v => R v h) := nr rfl
theorem e_slc (x : SX) (lo hi mx : Option SX) (k : Nat) : eff P ⟨none, d, .slc x lo hi mx k, m, kp⟩ fr h R = bindW (det (.slc x lo hi mx k) fr h) (fun v => R v h) := nr rfl
theorem e_fld (x : SX) (k n : Nat) (ag : Bool) : eff P ⟨none, d, .fld x k n ag, m, kp⟩ fr h R = bindW (det (.fld x k n ag) fr h) (fun v => R v h) := nr rfl
theorem e_ext (x : SX) (i : Nat) : eff P ⟨none, d, .ext x i, m, kp⟩ fr h R = bindW (det (.ext x i) fr h) (fun v => R v h) := nr rfl
theorem e_min (x y : SX) : eff P ⟨none, d, .min x y, m, kp⟩ fr h R = bindW (det (.min x y) fr h) (fun v => R v h) := nr rfl
theorem e_eqs (ne : Bool) (n : Nat) (x y : SX) : eff P ⟨none, d, .eqs ne n x y, m, kp⟩ fr h R = bindW (det (.eqs ne n x y) fr h) (fun v => R v h) := nr rfl
theorem e_new (cs : List AV) : eff P ⟨none, d, .new cs, m, kp⟩ fr h R = allocW (mem (.new cs) fr) h R := nr rfl
theorem e_box (x : SX) : eff P ⟨none, d, .box x, m, kp⟩ fr h R = allocW (mem (.box x) fr) h R := nr rfl
theorem e_mkl (l k : Nat) (z : List AV) (ps : List (Nat × Nat × SX)) : eff P ⟨none, d, .mkl l k z ps, m, kp⟩ fr h R = allocW (mem (.mkl l k z ps) fr) h R := nr rfl
theorem e_mks (x : SX) (k : Nat) (z : List AV) : eff P ⟨none, d, .mks x k z, m, kp⟩ fr h R = allocW (mem (.mks x k z) fr) h R := nr rfl
theorem e_app (s x : SX) (sz : Nat) : eff P ⟨none, d, .app s x sz, m, kp⟩ fr h R = appW (ev fr s) (ev fr x) sz h R := nr rfl
theorem e_cpy (s x : SX) (sz : Nat) : eff P ⟨none, d, .cpy s x sz, m, kp⟩ fr h R = cpyW (ev fr s) (ev fr x) h R := nr rfl
theorem e_st (x v : SX) (n : Nat) : eff P ⟨none, d, .st x v n, m, kp⟩ fr h R = stW (ev fr x) (ev fr v) n h (fun h' => keeps fr h h' kp ∧ R (.tup []) h') := nr rfl
theorem e_call (f : SX) (xs : List SX) : eff P ⟨none, d, .call f xs, m, kp⟩ fr h R = callW P m fr f xs h R := nr rfl

theorem binA_add (k : IntKind) (a b : Int) : binA .add (.base (.int k a)) (.base (.int k b)) = some (.base (.int k (k.wrap (a + b)))) := by simp [binA]
theorem binA_sub (k : IntKind) (a b : Int) : binA .sub (.base (.int k a)) (.base (.int k b)) = some (.base (.int k (k.wrap (a - b)))) := by simp [binA]
theorem binA_mul (k : IntKind) (a b : Int) : binA .mul (.base (.int k a)) (.base (.int k b)) = some (.base (.int k (k.wrap (a * b)))) := by simp [binA]
theorem binA_quo (k : IntKind) (a b : Int) : binA .quo (.base (.int k a)) (.base (.int k b)) = if b = 0 then none else some (.base (.int k (k.wrap (a.tdiv b)))) := by simp [binA]
theorem binA_rem (k : IntKind) (a b : Int) : binA .rem (.base (.int k a)) (.base (.int k b)) = if b = 0 then none else some (.base (.int k (a.tmod b))) := by simp [binA]
theorem binA_eql (k : IntKind) (a b : Int) : binA .eql (.base (.int k a)) (.base (.int k b)) = some (B (decide (a = b))) := by simp [binA]; rfl
theorem binA_neq (k : IntKind) (a b : Int) : binA .neq (.base (.int k a)) (.base (.int k b)) = some (B (!decide (a = b))) := by simp [binA]; rfl
theorem binA_lss (k : IntKind) (a b : Int) : binA .lss (.base (.int k a)) (.base (.int k b)) = some (B (decide (a < b))) := by simp [binA]
theorem binA_leq (k : IntKind) (a b : Int) : binA .leq (.base (.int k a)) (.base (.int k b)) = some (B (decide (a ≤ b))) := by simp [binA]
theorem binA_gtr (k : IntKind) (a b : Int) : binA .gtr (.base (.int k a)) (.base (.int k b)) = some (B (decide (a > b))) := by simp [binA]
theorem binA_geq (k : IntKind) (a b : Int) : binA .geq (.base (.int k a)) (.base (.int k b)) = some (B (decide (a ≥ b))) := by simp [binA]

/-- A loop: what holds at each head, with a number that every round lowers. -/
theorem awp_loop {c : SC} (J : Nat → Fr → Hp → Prop) (n : Nat) (h0 : J n fr h) (round : ∀ n fr h, J n fr h → awp P c (thenW (fun fr' h' => ∃ m, m < n ∧ J m fr' h') K) fr h) : awp P (.loop c) K fr h :=
  ⟨J, ⟨n, h0⟩, round⟩

/-- From here on only some slots count. -/
theorem awp_gen {c : SC} (S : List Nat) (p : ∀ fr', (∀ s ∈ S, fr' s = fr s) → awp P c K fr' h) : awp P c K fr h := p fr (fun _ _ => rfl)

theorem awp_mono {c : SC} {K K' : AE → Fr → Hp → Prop} (hk : ∀ e fr h, K e fr h → K' e fr h) : ∀ {fr : Fr} {h : Hp}, awp P c K fr h → awp P c K' fr h := by
  induction c generalizing K K' with
  | skip => exact fun a => hk _ _ _ a
  | reg ops => exact fun a => aops_mono (fun fr h => hk _ fr h) ops _ _ a
  | seq x y ihx ihy =>
    intro fr h a
    refine ihx (K := thenW (awp P y K) K) (K' := thenW (awp P y K') K') (fun e fr h hh => ?_) a
    cases e with
    | normal => exact ihy hk hh
    | exit i => exact hk _ _ _ hh
    | ret => exact hk _ _ _ hh
  | cond c x y ihx ihy =>
    intro fr h a
    simp only [awp] at a ⊢
    split at a
    · rename_i t ht
      cases t with
      | true => simp only [if_true] at a ⊢; exact ihx hk a
      | false => simp only [Bool.false_eq_true, if_false] at a ⊢; exact ihy hk a
    · exact a
  | block id c ih =>
    intro fr h a
    refine ih (K := inBlk id K) (K' := inBlk id K') (fun e fr h hh => ?_) a
    cases e with
    | normal => exact hk _ _ _ hh
    | exit i =>
      simp only [inBlk] at hh ⊢
      split
      · rename_i hi; simp only [hi, if_true] at hh; exact hk _ _ _ hh
      · rename_i hi; simp only [hi, if_false] at hh; exact hk _ _ _ hh
    | ret => exact hk _ _ _ hh
  | loop c ih =>
    intro fr h a
    obtain ⟨J, hJ, hr⟩ := a
    refine ⟨J, hJ, fun n fr h hj => ?_⟩
    refine ih (K := thenW (fun fr' h' => ∃ m, m < n ∧ J m fr' h') K) (K' := thenW (fun fr' h' => ∃ m, m < n ∧ J m fr' h') K') (fun e fr h hh => ?_) (hr n fr h hj)
    cases e with
    | normal => exact hh
    | exit i => exact hk _ _ _ hh
    | ret => exact hk _ _ _ hh
  | exit i => exact fun a => hk _ _ _ a
  | ret => exact fun a => hk _ _ _ a
  | fz S c ih => exact fun a => Fz.mono (fun fr h hh => ih hk hh) a

/-! ### Slots that code leaves alone -/

def SC.writes : SC → List Nat
  | .reg ops => ops.filterMap (·.d)
  | .seq a b | .cond _ a b => a.writes ++ b.writes
  | .block _ c | .loop c => c.writes
  | .fz S c => S ++ c.writes
  | _ => []

theorem aops_keep {k : Fr → Hp → Prop} : ∀ (ops : List GOp) (fr : Fr) (h : Hp), aops P k ops fr h → aops P (fun fr' h' => k fr' h' ∧ ∀ s, s ∉ ops.filterMap (·.d) → fr' s = fr s) ops fr h
  | [], fr, h, a => ⟨a, fun _ _ => rfl⟩
  | x :: xs, fr, h, a => by
    refine AM.eff_mono (fun v h' hh => ?_) (show eff P x fr h _ from a)
    refine aops_mono (fun fr' h'' hk => ⟨hk.1, fun s hs => ?_⟩) xs _ _ (aops_keep xs _ _ hh)
    have h1 : s ∉ xs.filterMap (·.d) := fun hm => hs (by
      rw [List.mem_filterMap] at hm ⊢
      obtain ⟨g, hg, hgd⟩ := hm
      exact ⟨g, List.mem_cons_of_mem _ hg, hgd⟩)
    rw [hk.2 s h1]
    cases hd : x.d with
    | none => rfl
    | some t =>
      have : s ≠ t := fun he => hs (by rw [List.mem_filterMap]; exact ⟨x, List.mem_cons_self .., by rw [hd, he]⟩)
      simp [updO, upd, this]

theorem awp_keep {c : SC} {K : AE → Fr → Hp → Prop} : ∀ {fr : Fr} {h : Hp}, awp P c K fr h → awp P c (fun e fr' h' => K e fr' h' ∧ ∀ s, s ∉ c.writes → fr' s = fr s) fr h := by
  induction c generalizing K with
  | skip => exact fun a => ⟨a, fun _ _ => rfl⟩
  | reg ops => exact fun a => aops_keep ops _ _ a
  | seq x y ihx ihy =>
    intro fr h a
    refine awp_mono (c := x) (fun e fr' h' hh => ?_) (ihx a)
    obtain ⟨h1, h2⟩ := hh
    cases e with
    | normal =>
      refine awp_mono (fun e fr'' h'' hk => ⟨hk.1, fun s hs => ?_⟩) (ihy h1)
      simp only [SC.writes, List.mem_append, not_or] at hs
      rw [hk.2 s hs.2, h2 s hs.1]
    | exit i => exact ⟨h1, fun s hs => h2 s (fun hm => hs (by simp [SC.writes, hm]))⟩
    | ret => exact ⟨h1, fun s hs => h2 s (fun hm => hs (by simp [SC.writes, hm]))⟩
  | cond c x y ihx ihy =>
    intro fr h a
    simp only [awp] at a ⊢
    split at a
    · rename_i t ht
      cases t with
      | true =>
        simp only [if_true] at a ⊢
        exact awp_mono (fun e fr' h' hk => ⟨hk.1, fun s hs => hk.2 s (fun hm => hs (by simp [SC.writes, hm]))⟩) (ihx a)
      | false =>
        simp only [Bool.false_eq_true, if_false] at a ⊢
        exact awp_mono (fun e fr' h' hk => ⟨hk.1, fun s hs => hk.2 s (fun hm => hs (by simp [SC.writes, hm]))⟩) (ihy a)
    · exact a
  | block id c ih =>
    intro fr h a
    refine awp_mono (c := c) (fun e fr' h' hh => ?_) (ih a)
    obtain ⟨h1, h2⟩ := hh
    cases e with
    | normal => exact ⟨h1, h2⟩
    | exit i =>
      simp only [inBlk] at h1 ⊢
      split
      · rename_i hi; simp only [hi, if_true] at h1; exact ⟨h1, h2⟩
      · rename_i hi; simp only [hi, if_false] at h1; exact ⟨h1, h2⟩
    | ret => exact ⟨h1, h2⟩
  | loop c ih =>
    intro fr h a
    obtain ⟨J, ⟨n, hJ⟩, hr⟩ := a
    refine ⟨fun n fr' h' => J n fr' h' ∧ ∀ s, s ∉ c.writes → fr' s = fr s, ⟨n, hJ, fun _ _ => rfl⟩, fun n fr1 h1 hj => ?_⟩
    refine awp_mono (fun e fr' h' hh => ?_) (ih (hr n fr1 h1 hj.1))
    obtain ⟨g1, g2⟩ := hh
    have g3 : ∀ s, s ∉ c.writes → fr' s = fr s := fun s hs => by rw [g2 s hs, hj.2 s hs]
    cases e with
    | normal =>
      obtain ⟨m, hm, hJm⟩ := g1
      exact ⟨m, hm, hJm, g3⟩
    | exit i => exact ⟨g1, g3⟩
    | ret => exact ⟨g1, g3⟩
  | exit i => exact fun a => ⟨a, fun _ _ => rfl⟩
  | ret => exact fun a => ⟨a, fun _ _ => rfl⟩
  | fz S c ih =>
    intro fr h a
    obtain ⟨h', vs, g1, g2, g3⟩ := a
    refine ⟨h', vs, g1, g2, awp_mono (fun e fr' h'' hk => ⟨hk.1, fun s hs => ?_⟩) (ih g3)⟩
    simp only [SC.writes, List.mem_append, not_or] at hs
    rw [hk.2 s hs.2, updL_keep vs fr s hs.1]

/-- A loop, whose frame keeps the slots that the body does not write. -/
theorem awp_loopk {c : SC} (J : Nat → Fr → Hp → Prop) (n : Nat) (h0 : J n fr h)
    (round : ∀ n fr' h', (∀ s, c.writes.contains s = false → fr' s = fr s) → J n fr' h' → awp P c (thenW (fun fr'' h'' => ∃ m, m < n ∧ J m fr'' h'') K) fr' h') : awp P (.loop c) K fr h := by
  refine awp_loop (fun n fr' h' => J n fr' h' ∧ ∀ s, c.writes.contains s = false → fr' s = fr s) n ⟨h0, fun _ _ => rfl⟩ ?_
  intro n fr1 h1 ⟨hj, hk⟩
  refine awp_mono (fun e fr' h' hh => ?_) (awp_keep (round n fr1 h1 hk hj))
  obtain ⟨g1, g2⟩ := hh
  cases e with
  | normal =>
    obtain ⟨m, hm, hJm⟩ := g1
    refine ⟨m, hm, hJm, fun s hs => ?_⟩
    rw [g2 s (fun hmem => by rw [List.contains_eq_mem] at hs; simp [hmem] at hs), hk s hs]
  | exit i => exact g1
  | ret => exact g1

end
end Go.AM

/- The same sums in natural numbers, for the kernel to run. No Go program in it. -/
import Derived.Test.YtmihmgnjnedfcaaFC
set_option linter.unusedSimpArgs false
set_option linter.unusedVariables false
namespace Go.FM

abbrev up (l : List Nat) : List Int := l.map Int.ofNat

/-- With the recursors themselves: the kernel runs it faster. -/
noncomputable def hgoN (p t c prev : Nat) (os fs as : List Nat) : List Nat :=
  List.rec (motive := fun _ => Nat → List Nat → List Nat → List Nat) (fun _ _ _ => [])
    (fun o _ ih prev fs as => List.rec (motive := fun _ => List Nat) [] (fun f fs _ => List.rec (motive := fun _ => List Nat) []
      (fun a as _ => Nat.mod (Nat.add (Nat.add prev (Nat.mul t f)) (Nat.mul c a)) p :: ih o fs as) as) fs) os prev fs as
theorem hgoN_nil (p t c prev : Nat) (fs as : List Nat) : hgoN p t c prev [] fs as = [] := rfl
theorem hgoN_nil2 (p t c prev o : Nat) (os as : List Nat) : hgoN p t c prev (o :: os) [] as = [] := rfl
theorem hgoN_nil3 (p t c prev o f : Nat) (os fs : List Nat) : hgoN p t c prev (o :: os) (f :: fs) [] = [] := rfl
theorem hgoN_cons (p t c prev o f a : Nat) (os fs as : List Nat) : hgoN p t c prev (o :: os) (f :: fs) (a :: as) = ((prev + t * f + c * a) % p) :: hgoN p t c o os fs as := rfl

theorem hgo_up (p t c : Nat) : ∀ (os fs as : List Nat) (prev : Nat), hgo p t c prev (up os) (up fs) (up as) = up (hgoN p t c prev os fs as)
  | [], fs, as, prev => by simp [hgo, hgoN_nil]
  | o :: os, [], as, prev => by simp [hgo, hgoN_nil2]
  | o :: os, f :: fs, [], prev => by simp [hgo, hgoN_nil3]
  | o :: os, f :: fs, a :: as, prev => by
    have := hgo_up p t c os fs as o
    simp only [up, List.map_cons, hgo, hgoN_cons, Int.ofNat_eq_natCast] at this ⊢
    rw [this]
    simp

def topN : List Nat → Nat
  | [] => 0
  | [x] => x
  | _ :: l => topN l

theorem topN_vl : ∀ (os : List Nat), vl (up os) ((up os).length - 1) = topN os
  | [] => by simp [vl, topN]
  | [x] => by simp [vl, topN]
  | x :: y :: l => by
    have := topN_vl (y :: l)
    simp only [vl, up, List.map_cons, List.length_cons, Nat.add_sub_cancel, List.getD_cons_succ, topN] at this ⊢
    rw [← this]

/-- Have a number worked out first. -/
noncomputable def frcA {α : Type} (x : Nat) (k : Nat → α) : α := Nat.rec (motive := fun _ => α) (k 0) (fun n _ => k (Nat.succ n)) x
theorem frcA_eq {α : Type} (x : Nat) (k : Nat → α) : frcA x k = k x := by cases x <;> rfl
noncomputable def frcM : List Nat → (List Nat → List Nat) → List Nat
  | [], k => k []
  | x :: l, k => frcA x fun y => frcM l fun t => k (y :: t)
theorem frcM_eq : ∀ (l : List Nat) (k : List Nat → List Nat), frcM l k = k l
  | [], k => rfl
  | x :: l, k => by simp only [frcM, frcA_eq, frcM_eq l]
noncomputable def hstepN (p : Nat) (fs as : List Nat) (c : Nat) (os : List Nat) : List Nat := frcA (p - topN os) fun t => hgoN p t c 0 os fs as
theorem hstepN_eq (p : Nat) (fs as : List Nat) (c : Nat) (os : List Nat) : hstepN p fs as c os = hgoN p (p - topN os) c 0 os fs as := frcA_eq _ _

def DgN (p : Nat) (l : List Nat) : Prop := ∀ x ∈ l, x < p
theorem DgN.up {p : Nat} {l : List Nat} (h : DgN p l) : Dg p (FM.up l) := by
  intro x hx
  obtain ⟨n, hn, rfl⟩ := List.mem_map.1 hx
  have := h n hn
  exact ⟨Int.natCast_nonneg n, Int.ofNat_lt.2 this⟩
theorem topN_le {p : Nat} : ∀ {os : List Nat}, DgN p os → topN os ≤ p
  | [], _ => by simp [topN]
  | [x], h => by have := h x (by simp); simp only [topN]; omega
  | x :: y :: l, h => topN_le (os := y :: l) fun z hz => h z (by simp at hz ⊢; exact .inr hz)
theorem hgoN_DgN {p : Nat} (hp : 0 < p) (t c : Nat) : ∀ (os fs as : List Nat) (prev : Nat), DgN p (hgoN p t c prev os fs as)
  | [], fs, as, prev => by simp [hgoN_nil, DgN]
  | o :: os, [], as, prev => by simp [hgoN_nil2, DgN]
  | o :: os, f :: fs, [], prev => by simp [hgoN_nil3, DgN]
  | o :: os, f :: fs, a :: as, prev => by
    intro x hx
    simp only [hgoN_cons, List.mem_cons] at hx
    rcases hx with rfl | hx
    · exact Nat.mod_lt _ hp
    · exact hgoN_DgN hp t c os fs as o x hx
theorem hstep_up {p : Nat} (fs as : List Nat) (c : Nat) {os : List Nat} (h : DgN p os) : hstep p (up fs) (up as) c (up os) = up (hstepN p fs as c os) := by
  rw [hstepN_eq]
  unfold hstep
  rw [topN_vl, ← hgo_up]
  have := topN_le h
  congr 1
  omega

noncomputable def hornerN (p : Nat) (fs as z : List Nat) : List Nat → List Nat
  | [] => z
  | c :: bs => frcM (hornerN p fs as z bs) fun os => hstepN p fs as c os
theorem hornerN_cons (p : Nat) (fs as z : List Nat) (c : Nat) (bs : List Nat) : hornerN p fs as z (c :: bs) = hstepN p fs as c (hornerN p fs as z bs) := by
  simp only [hornerN, frcM_eq]
theorem hornerN_DgN {p : Nat} (hp : 0 < p) {fs as z : List Nat} (hz : DgN p z) : ∀ bs, DgN p (hornerN p fs as z bs)
  | [] => hz
  | c :: bs => by
    rw [hornerN_cons, hstepN_eq]
    exact hgoN_DgN hp _ _ _ _ _ _
theorem horner_up {p : Nat} (hp : 0 < p) {fs as z : List Nat} (hz : DgN p z) : ∀ bs, horner p (up fs) (up as) (up z) (up bs) = up (hornerN p fs as z bs)
  | [] => rfl
  | c :: bs => by
    show hstep p (up fs) (up as) c (horner p (up fs) (up as) (up z) (up bs)) = _
    rw [horner_up hp hz bs, hstep_up _ _ _ (hornerN_DgN hp hz bs), hornerN_cons]

def digsN (p : Nat) : Nat → Nat → List Nat
  | 0, _ => []
  | m + 1, x => x % p :: digsN p m (x / p)
theorem digs_up (p : Nat) : ∀ m x : Nat, digs p m x = up (digsN p m x)
  | 0, _ => rfl
  | m + 1, x => by
    have := digs_up p m (x / p)
    simp only [digs, digsN, up, List.map_cons] at this ⊢
    rw [← this]
    simp
theorem digsN_length (p : Nat) : ∀ m x, (digsN p m x).length = m
  | 0, _ => rfl
  | m + 1, x => by simp [digsN, digsN_length p m]
theorem digsN_DgN {p : Nat} (hp : 0 < p) : ∀ m x, DgN p (digsN p m x)
  | 0, _ => by simp [digsN, DgN]
  | m + 1, x => by
    intro y hy
    rcases List.mem_cons.1 hy with rfl | hy
    · exact Nat.mod_lt _ hp
    · exact digsN_DgN hp m _ y hy

/-- Without the zeros at the top. -/
def trimN : List Nat → List Nat
  | [] => []
  | x :: l => match trimN l, x with
    | [], 0 => []
    | t, x => x :: t
theorem trimN_vl : ∀ (l : List Nat) (j : Nat), vl (up (trimN l)) j = vl (up l) j
  | [], j => rfl
  | x :: l, j => by
    have ih := trimN_vl l
    unfold trimN
    split
    · rename_i h
      rw [h] at ih
      cases j with
      | zero => simp [vl]
      | succ j => have := ih j; simp [vl] at this ⊢; exact this
    · cases j with
      | zero => simp [vl]
      | succ j => have := ih j; simp [vl] at this ⊢; exact this
theorem trimN_le : ∀ (l : List Nat), (trimN l).length ≤ l.length
  | [] => by simp [trimN]
  | x :: l => by
    have ih := trimN_le l
    unfold trimN
    split
    · simp
    · simp only [List.length_cons]; omega

def allz : List Nat → Bool
  | [] => true
  | x :: l => Nat.beq x 0 && allz l
def isOne : List Nat → Bool
  | [] => false
  | x :: l => Nat.beq x 1 && allz l
theorem allz_iff : ∀ {l : List Nat}, allz l = true ↔ ∀ j, vl (up l) j = 0
  | [] => by simp [allz, vl]
  | x :: l => by
    simp only [allz, Bool.and_eq_true, Nat.beq_eq, allz_iff (l := l)]
    constructor
    · rintro ⟨rfl, h⟩ j
      cases j with
      | zero => rfl
      | succ j => simpa [vl] using h j
    · intro h
      refine ⟨by have := h 0; simp [vl] at this; omega, fun j => ?_⟩
      simpa [vl] using h (j + 1)
theorem isOne_iff : ∀ {l : List Nat}, l ≠ [] → (isOne l = true ↔ ∀ j, vl (up l) j = e 0 j)
  | [], h => by simp at h
  | x :: l, _ => by
    simp only [isOne, Bool.and_eq_true, Nat.beq_eq, allz_iff (l := l)]
    constructor
    · rintro ⟨rfl, h⟩ j
      cases j with
      | zero => rfl
      | succ j => simpa [vl, e] using h j
    · intro h
      refine ⟨by have := h 0; simp [vl, e] at this; omega, fun j => ?_⟩
      simpa [vl, e] using h (j + 1)

noncomputable def frcN (x : Nat) (k : Nat → Bool) : Bool := Nat.rec (k 0) (fun n _ => k (Nat.succ n)) x
theorem frcN_eq (x : Nat) (k : Nat → Bool) : frcN x k = k x := by cases x <;> rfl
noncomputable def frcL : List Nat → (List Nat → Bool) → Bool
  | [], k => k []
  | x :: l, k => frcN x fun y => frcL l fun t => k (y :: t)
theorem frcL_eq : ∀ (l : List Nat) (k : List Nat → Bool), frcL l k = k l
  | [], k => rfl
  | x :: l, k => by simp only [frcL, frcN_eq, frcL_eq l]

/-- The powers of an element are 1 at the end and not before. -/
noncomputable def chkG (p : Nat) (fs z xs : List Nat) : Nat → List Nat → Bool
  | 0, y => isOne y
  | n + 1, y => match isOne y with
    | true => false
    | false => frcL (hornerN p fs y z xs) fun y' => chkG p fs z xs n y'

namespace Ds
variable {D : Ds}

theorem Okm.moN (o : D.Okm) : ∃ fs, DgN D.p fs ∧ up fs = D.moL := by
  have key : ∀ l : List Int, Dg D.p l → ∃ fs, DgN D.p fs ∧ up fs = l := by
    intro l
    induction l with
    | nil => exact fun _ => ⟨[], by simp [DgN], rfl⟩
    | cons x l ih =>
      intro h
      obtain ⟨fs, h1, h2⟩ := ih fun y hy => h y (by simp [hy])
      have hx := h x (by simp)
      refine ⟨x.toNat :: fs, ?_, ?_⟩
      · intro y hy
        rcases List.mem_cons.1 hy with rfl | hy
        · omega
        · exact h1 y hy
      · simp only [up, List.map_cons] at h2 ⊢
        rw [h2]
        congr 1
        have := hx.1
        simp only [Int.ofNat_eq_natCast]
        omega
  refine key _ ?_
  unfold moL
  split
  · intro x hx; simp at hx; have := o.p2; omega
  · exact o.dg

/-- Products in natural numbers. -/
theorem Okm.mulN (o : D.Okm) {fs : List Nat} (hf : up fs = D.moL) {as : List Nat} (ha : DgN D.p as) (hal : as.length = D.m) {bs : List Nat} (hb : bs.length ≤ D.m) (hbd : DgN D.p bs) {x y : Int} (hx : D.R x) (hy : D.R y)
    (hxa : digs D.p D.m x = up as) (hyb : ∀ j, D.ve y j = vl (up bs) j) :
    digs D.p D.m (D.mul x y) = up (hornerN D.p fs as (List.replicate D.m 0) bs) := by
  have hp := o.p2
  have hz : DgN D.p (List.replicate D.m 0) := by intro x hx; have := List.eq_of_mem_replicate hx; omega
  rw [← horner_up (by omega) hz, hf]
  have hl : (up fs).length = D.m := by rw [hf]; exact o.moL_len
  have e1 : up (List.replicate D.m 0) = List.replicate D.m 0 := by simp [up]
  rw [e1]
  have hln : (horner (D.p : Int) D.moL (up as) (List.replicate D.m 0) (up bs)).length = D.m := horner_length (by simp) o.moL_len (by simp [hal]) _
  have hdg : Dg D.p (horner (D.p : Int) D.moL (up as) (List.replicate D.m 0) (up bs)) := horner_Dg o.p0 (Dg_zeros o.p0 _) _
  refine Q_list o.p0 (digs_Dg o.p0 _ _) hdg (digs_length ..) hln ?_
  have h1 := horner_Q (p := D.p) o.m1 o.moL_len (as := up as) (by simp [hal]) (up bs)
  refine Q.trans ?_ h1.symm
  show Q D.m D.p (D.ve (D.mul x y)) _
  unfold mul
  refine (o.venu _).trans (Q.of fun j hj => ?_)
  rw [inn_of hx, inn_of hy, o.moL_vl]
  unfold FM.mul
  have hxv : D.ve x = vl (up as) := by show vl (digs D.p D.m x) = _; rw [hxa]
  rw [hxv]
  have : ∀ n k, (up bs).length ≤ n → k = n → S k (fun i => D.ve y i * FM.Tn D.m D.moV i (vl (up as)) j) = S (up bs).length (fun i => vl (up bs) i * FM.Tn D.m D.moV i (vl (up as)) j) := by
    intro n k hn hk
    subst hk
    induction k with
    | zero => rw [show (up bs).length = 0 by omega]; rfl
    | succ k ih =>
      by_cases hle : (up bs).length ≤ k
      · rw [S, ih hle, hyb k]
        have : vl (up bs) k = 0 := by simp only [vl, List.getD]; rw [List.getElem?_eq_none hle]; rfl
        rw [this]; omega
      · rw [show (up bs).length = k + 1 by omega]
        exact S_congr fun i _ => by rw [hyb]
  exact this D.m D.m (by simp [hb]) rfl

theorem ve_eq_one (o : D.Okm) {as : List Nat} (hal : as.length = D.m) {x : Int} (hx : D.R x) (hxa : digs D.p D.m x = up as) : isOne as = true ↔ x = 1 := by
  have hm := o.m1
  rw [isOne_iff (by intro h; rw [h] at hal; simp at hal; omega)]
  constructor
  · intro h
    refine o.ext hx o.q1 (Q.of fun j _ => ?_)
    rw [o.ve_one, ← h j, ← hxa]; rfl
  · rintro rfl j
    rw [← hxa, ← o.ve_one]; rfl

theorem chkG_sound (o : D.Okm) {fs : List Nat} (hf : up fs = D.moL) {x : Int} (hx : D.R x) {xs : List Nat} (hxl : xs.length ≤ D.m) (hxd : DgN D.p xs) (hxv : ∀ j, D.ve x j = vl (up xs) j) :
    ∀ (n k : Nat) (y : List Nat), y.length = D.m → DgN D.p y → digs D.p D.m (D.pw x k) = up y → chkG D.p fs (List.replicate D.m 0) xs n y = true →
      D.pw x (k + n) = 1 ∧ ∀ i, k ≤ i → i < k + n → D.pw x i ≠ 1
  | 0, k, y, hyl, hyd, hy, h => by
    unfold chkG at h
    exact ⟨(ve_eq_one o hyl (o.pwR x k) hy).1 h, fun i _ _ => by omega⟩
  | n + 1, k, y, hyl, hyd, hy, h => by
    unfold chkG at h
    split at h
    · cases h
    · rename_i h1
      rw [frcL_eq] at h
      have hp := o.p2
      have h2 := o.mulN hf hyd hyl hxl hxd (o.pwR x k) hx hy hxv
      have hz : DgN D.p (List.replicate D.m 0) := by intro x hx; have := List.eq_of_mem_replicate hx; omega
      have h3 := chkG_sound o hf hx hxl hxd hxv n (k + 1) _ (by
        have := congrArg List.length h2
        rw [digs_length] at this
        simp at this; omega) (hornerN_DgN (by omega) hz xs) h2 h
      refine ⟨by rw [← h3.1]; congr 1; omega, fun i hi1 hi2 => ?_⟩
      by_cases hik : i = k
      · subst hik
        intro hc
        rw [(ve_eq_one o hyl (o.pwR x i) hy).2 hc] at h1
        cases h1
      · exact h3.2 i (by omega) (by omega)

/-- The check of a generator. -/
theorem gen_of (o : D.Okm) {fs : List Nat} (hf : up fs = D.moL) {x : Nat} (hx : x < D.q)
    (h : chkG D.p fs (List.replicate D.m 0) (trimN (digsN D.p D.m x)) (D.q - 2) (digsN D.p D.m x) = true) : D.Gen x := by
  have hp := o.p2
  have hR : D.R x := ⟨by omega, by omega⟩
  have hd := digsN_DgN (p := D.p) (by omega) D.m x
  have hle := trimN_le (digsN D.p D.m x)
  rw [digsN_length] at hle
  have htd : DgN D.p (trimN (digsN D.p D.m x)) := by
    intro y hy
    obtain ⟨j, hj, rfl⟩ := List.mem_iff_getElem.1 hy
    have h1 := trimN_vl (digsN D.p D.m x) j
    have h2 := vl_range o.p0 hd.up j
    rw [← h1] at h2
    simp [vl, List.getD, hj] at h2
    omega
  have h1 := chkG_sound o hf hR hle htd (fun j => by rw [trimN_vl, ← digs_up]; rfl) (D.q - 2) 1 (digsN D.p D.m x) (digsN_length ..) hd (by rw [o.toOk.pw_one, inn_of hR, digs_up]) h
  have h2 := o.q2
  refine ⟨hR, ?_, fun n h3 h4 => h1.2 n h3 (by omega)⟩
  rw [← h1.1]; congr 1; omega

/-- The check of two zero divisors. -/
theorem div_of (o : D.Okm) {fs : List Nat} (hf : up fs = D.moL) {x y : Nat} (hx : x < D.q) (hy : y < D.q) (h : allz (hornerN D.p fs (digsN D.p D.m x) (List.replicate D.m 0) (digsN D.p D.m y)) = true) : D.mul x y = 0 := by
  have hp := o.p2
  have hRx : D.R x := ⟨by omega, by omega⟩
  have hRy : D.R y := ⟨by omega, by omega⟩
  have h2 := o.mulN hf (digsN_DgN (by omega) D.m x) (digsN_length ..) (by rw [digsN_length]; omega) (digsN_DgN (by omega) D.m y) hRx hRy (digs_up ..) (fun j => by rw [← digs_up]; rfl)
  rw [allz_iff] at h
  refine o.ext (o.mulR _ _) o.q0 (Q.of fun j _ => ?_)
  rw [ve_zero, ← h j, ← h2]; rfl
end Ds
end Go.FM

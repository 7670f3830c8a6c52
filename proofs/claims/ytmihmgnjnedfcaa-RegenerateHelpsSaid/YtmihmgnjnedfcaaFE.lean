/- Division of polynomials as the reference does it, and the table of all residue rings of at most 256 elements. No Go program in it. -/
import Derived.Test.YtmihmgnjnedfcaaFD
set_option linter.unusedSimpArgs false
set_option linter.unusedVariables false
set_option maxRecDepth 100000
namespace Go.FM

/-- One step of the division by a monic polynomial with the low coefficients low: the coefficient i goes. -/
def dstep (p : Int) (low : List Int) (i : Nat) (r : V) : V := fun k =>
  if k = i then 0 else if i - low.length ≤ k ∧ k < i then (r k + (p - r i) * vl low (k - (i - low.length))) % p else r k

def drun (p : Int) (low : List Int) : Nat → V → V
  | 0, r => r
  | n + 1, r => drun p low n (dstep p low (low.length + n) r)

/-- low divides mo. -/
def Dv (p : Int) (low mo : List Int) : Prop := ∀ k, drun p low (mo.length + 1 - low.length) (vl (mo ++ [1])) k = 0

/-- No monic divisor of a degree from 1 to half of its own. -/
def Irr (p : Int) (mo : List Int) : Prop := ∀ d v : Nat, 1 ≤ d → 2 * d ≤ mo.length → (v : Int) < p ^ d → ¬ Dv p (digs p d v) mo

noncomputable def addm (p t : Nat) (ls rs : List Nat) : List Nat :=
  List.rec (motive := fun _ => List Nat → List Nat) (fun rs => rs)
    (fun l _ ih rs => List.rec (motive := fun _ => List Nat) [] (fun r rs _ => Nat.mod (Nat.add r (Nat.mul t l)) p :: ih rs) rs) ls rs
theorem addm_nil (p t : Nat) (rs : List Nat) : addm p t [] rs = rs := rfl
theorem addm_nil2 (p t l : Nat) (ls : List Nat) : addm p t (l :: ls) [] = [] := rfl
theorem addm_cons (p t l r : Nat) (ls rs : List Nat) : addm p t (l :: ls) (r :: rs) = ((r + t * l) % p) :: addm p t ls rs := rfl

theorem addm_length (p t : Nat) : ∀ ls rs, (addm p t ls rs).length = rs.length
  | [], rs => by simp [addm_nil]
  | l :: ls, [] => by simp [addm_nil2]
  | l :: ls, r :: rs => by simp [addm_cons, addm_length p t ls rs]

theorem addm_DgN {p : Nat} (hp : 0 < p) (t : Nat) : ∀ ls rs, DgN p rs → DgN p (addm p t ls rs)
  | [], rs, h => by simpa [addm_nil, addm_nil2] using h
  | l :: ls, [], h => by simpa [addm_nil, addm_nil2] using h
  | l :: ls, r :: rs, h => by
    intro x hx
    simp only [addm_cons, List.mem_cons] at hx
    rcases hx with rfl | hx
    · exact Nat.mod_lt _ hp
    · exact addm_DgN hp t ls rs (fun y hy => h y (by simp [hy])) x hx

theorem addm_get (p t : Nat) : ∀ (ls rs : List Nat) (j : Nat), ls.length ≤ rs.length → (addm p t ls rs).getD j 0 = if j < ls.length then (rs.getD j 0 + t * ls.getD j 0) % p else rs.getD j 0
  | [], rs, j, _ => by simp [addm_nil]
  | l :: ls, [], j, h => by simp at h
  | l :: ls, r :: rs, j, h => by
    cases j with
    | zero => simp [addm_cons]
    | succ j => have := addm_get p t ls rs j (by simpa using h); simp [addm_cons] at this ⊢; exact this

/-- The division, top first. -/
noncomputable def divN (p : Nat) (ls : List Nat) : Nat → List Nat → Bool
  | 0, r => allz r
  | n + 1, [] => true
  | n + 1, c :: r => frcL (frcA (p - c) fun t => addm p t ls r) fun r' => divN p ls n r'

theorem divN_iff {p : Nat} (hp : 0 < p) (ls : List Nat) (low : List Int) (hlow : low = up ls.reverse) : ∀ (n : Nat) (cur : List Nat) (r : V), cur.length = ls.length + n → (∀ x ∈ cur, x ≤ p) →
    (∀ k, k < ls.length + n → r k = (cur.getD (ls.length + n - 1 - k) 0 : Nat)) → (∀ k, ls.length + n ≤ k → r k = 0) → (divN p ls n cur = true ↔ ∀ k, drun p low n r k = 0)
  | 0, cur, r, hl, hc, hr, hz => by
    simp only [divN, drun]
    rw [allz_iff]
    constructor
    · intro h k
      by_cases hk : k < ls.length
      · rw [hr k (by omega)]
        have := h (ls.length + 0 - 1 - k)
        simp only [vl, up, List.getD, List.getElem?_map] at this ⊢
        cases hq : cur[ls.length + 0 - 1 - k]? with
        | none => rfl
        | some x => rw [hq] at this; simpa using this
      · exact hz k (by omega)
    · intro h j
      by_cases hj : j < ls.length
      · have h1 := h (ls.length - 1 - j)
        rw [hr _ (by omega), show ls.length + 0 - 1 - (ls.length - 1 - j) = j by omega] at h1
        simp only [vl, up, List.getD, List.getElem?_map] at h1 ⊢
        cases hq : cur[j]? with
        | none => rfl
        | some x => rw [hq] at h1; simpa using h1
      · simp only [vl, List.getD]
        rw [List.getElem?_eq_none (by simp; omega)]; rfl
  | n + 1, [], r, hl, hc, hr, hz => by simp at hl
  | n + 1, c :: cur, r, hl, hc, hr, hz => by
    simp only [divN, frcL_eq, frcA_eq, drun]
    have hll : low.length = ls.length := by rw [hlow]; simp
    have hl' : cur.length = ls.length + n := by simp at hl; omega
    have hrt : r (ls.length + n) = (c : Int) := by
      rw [hr _ (by omega), show ls.length + (n + 1) - 1 - (ls.length + n) = 0 by omega]; rfl
    have hcp := hc c (by simp)
    refine divN_iff hp ls low hlow n _ _ (by rw [addm_length]; exact hl') ?_ ?_ ?_
    · intro x hx
      obtain ⟨j, hj, rfl⟩ := List.mem_iff_getElem.1 hx
      have h1 := addm_get p (p - c) ls cur j (by omega)
      have h2 : (addm p (p - c) ls cur).getD j 0 = (addm p (p - c) ls cur)[j] := by simp [List.getD, hj]
      rw [← h2, h1]
      split
      · exact Nat.le_of_lt (Nat.mod_lt _ hp)
      · rw [addm_length] at hj
        have := hc cur[j] (by simp)
        simpa [List.getD, hj] using this
    · intro k hk
      simp only [dstep]
      rw [if_neg (by omega), hll, addm_get _ _ _ _ _ (by omega)]
      have hrk : r k = ((cur.getD (ls.length + n - 1 - k) 0 : Nat) : Int) := by
        rw [hr k (by omega), show ls.length + (n + 1) - 1 - k = (ls.length + n - 1 - k) + 1 by omega, List.getD_cons_succ]
      by_cases hkn : n ≤ k
      · rw [if_pos (by omega), if_pos (by omega), hrk, hrt]
        have e1 : vl low (k - (ls.length + n - ls.length)) = ((ls.getD (ls.length + n - 1 - k) 0 : Nat) : Int) := by
          rw [hlow]
          simp only [vl, up, List.getD, List.getElem?_map]
          rw [List.getElem?_reverse (by omega), show ls.length - 1 - (k - (ls.length + n - ls.length)) = ls.length + n - 1 - k by omega]
          cases ls[ls.length + n - 1 - k]? <;> rfl
        rw [e1, Int.natCast_emod, Int.natCast_add, Int.natCast_mul, Int.natCast_sub hcp]
      · rw [if_neg (by omega), if_neg (by omega), hrk]
    · intro k hk
      simp only [dstep]
      by_cases hkn : k = low.length + n
      · rw [if_pos hkn]
      · rw [if_neg hkn, if_neg (by omega), hz k (by omega)]

/-- No divisor of degree d among the first n. -/
noncomputable def noDiv (p d m : Nat) (rev : List Nat) : Nat → Bool
  | 0 => true
  | n + 1 => match divN p (digsN p d n).reverse (m + 1 - d) rev with
    | true => false
    | false => noDiv p d m rev n

theorem noDiv_iff {p d m : Nat} {rev : List Nat} : ∀ {n : Nat}, noDiv p d m rev n = true ↔ ∀ v, v < n → divN p (digsN p d v).reverse (m + 1 - d) rev = false
  | 0 => by simp [noDiv]
  | n + 1 => by
    unfold noDiv
    split
    · rename_i h
      constructor
      · intro hh; cases hh
      · intro hh; have := hh n (by omega); rw [h] at this; cases this
    · rename_i h
      rw [noDiv_iff (n := n)]
      constructor
      · intro hh v hv
        by_cases hvn : v = n
        · subst hvn; exact h
        · exact hh v (by omega)
      · exact fun hh v hv => hh v (by omega)

/-- The degrees 1 to n. -/
noncomputable def irrN (p m : Nat) (rev : List Nat) : Nat → Bool
  | 0 => true
  | n + 1 => irrN p m rev n && noDiv p (n + 1) m rev (p ^ (n + 1))

theorem irrN_iff {p m : Nat} {rev : List Nat} : ∀ {n : Nat}, irrN p m rev n = true ↔ ∀ d, 1 ≤ d → d ≤ n → noDiv p d m rev (p ^ d) = true
  | 0 => by simp [irrN]; intros; omega
  | n + 1 => by
    simp only [irrN, Bool.and_eq_true, irrN_iff (n := n)]
    constructor
    · rintro ⟨h2, h1⟩ d hd hdn
      by_cases hd2 : d = n + 1
      · subst hd2; exact h1
      · exact h2 d hd (by omega)
    · exact fun h => ⟨fun d h1 h2 => h d h1 (by omega), h (n + 1) (by omega) (by omega)⟩

theorem Dv_iff {p : Nat} (hp : 0 < p) {mo : List Nat} (hmo : DgN p mo) {d v : Nat} (hd : d ≤ mo.length) (hp2 : 1 < p) : divN p (digsN p d v).reverse (mo.length + 1 - d) (1 :: mo.reverse) = true ↔ Dv p (digs p d v) (up mo) := by
  unfold Dv
  have hl : (digs (p : Int) d v).length = d := digs_length ..
  rw [hl, show (up mo).length = mo.length by simp]
  refine divN_iff hp _ _ (by rw [List.reverse_reverse, digs_up]) _ _ _ (by simp [digsN_length]; omega) ?_ ?_ ?_
  · intro x hx
    rcases List.mem_cons.1 hx with rfl | hx
    · omega
    · exact Nat.le_of_lt (hmo x (by simpa using hx))
  · intro k hk
    simp only [List.length_reverse, digsN_length] at hk ⊢
    rw [show d + (mo.length + 1 - d) - 1 - k = mo.length - k by omega]
    by_cases hkm : k = mo.length
    · subst hkm
      simp [vl]
    · rw [show mo.length - k = (mo.length - 1 - k) + 1 by omega, List.getD_cons_succ]
      simp only [vl, up, List.getD]
      rw [List.getElem?_append_left (by simp; omega), List.getElem?_reverse (by omega), show mo.length - 1 - (mo.length - 1 - k) = k by omega, List.getElem?_map]
      cases mo[k]? <;> rfl
  · intro k hk
    simp only [List.length_reverse, digsN_length] at hk
    simp only [vl, List.getD]
    rw [List.getElem?_eq_none (by simp; omega)]; rfl

theorem Irr_iff {p : Nat} (hp2 : 1 < p) {mo : List Nat} (hmo : DgN p mo) : irrN p mo.length (1 :: mo.reverse) (mo.length / 2) = true ↔ Irr p (up mo) := by
  rw [irrN_iff]
  unfold Irr
  constructor
  · intro h d v h1 h2 h3 h4
    have h2' : 2 * d ≤ mo.length := by simpa using h2
    have h5 := noDiv_iff.1 (h d h1 (by omega)) v (by
      have : ((v : Nat) : Int) < ((p ^ d : Nat) : Int) := by rw [Int.natCast_pow]; exact h3
      omega)
    rw [(Dv_iff (by omega) hmo (by omega) hp2).2 h4] at h5
    cases h5
  · intro h d h1 h2
    refine noDiv_iff.2 fun v hv => ?_
    have h3 := h d v h1 (by simp; omega) (by
      have : ((v : Nat) : Int) < ((p ^ d : Nat) : Int) := by omega
      rw [Int.natCast_pow] at this; exact this)
    rw [← Dv_iff (by omega) hmo (by omega) hp2] at h3
    exact Bool.eq_false_iff.2 h3

/-- What the table says of one ring: a generator, or two zero divisors. -/
noncomputable def chk1 (p m v : Nat) (c : Nat × Nat) : Bool :=
  frcL (digsN p m v) fun mo => match c.2 with
    | 0 => (Nat.beq m 1 || irrN p m (1 :: mo.reverse) (m / 2)) && Nat.blt c.1 (p ^ m) && frcL (digsN p m c.1) fun xs => chkG p mo (List.replicate m 0) (trimN xs) (p ^ m - 2) xs
    | b + 1 => !irrN p m (1 :: mo.reverse) (m / 2) && Nat.blt 0 c.1 && Nat.blt c.1 (p ^ m) && Nat.blt (b + 1) (p ^ m) && allz (hornerN p mo (digsN p m c.1) (List.replicate m 0) (digsN p m (b + 1)))

noncomputable def chkR (p m : Nat) : Nat → List (Nat × Nat) → Bool
  | _, [] => true
  | v, c :: l => chk1 p m v c && chkR p m (v + 1) l

theorem chkR_get {p m : Nat} : ∀ {l : List (Nat × Nat)} {v : Nat}, chkR p m v l = true → ∀ i, i < l.length → ∃ c, chk1 p m (v + i) c = true
  | [], v, _, i, hi => by simp at hi
  | c :: l, v, h, i, hi => by
    simp only [chkR, Bool.and_eq_true] at h
    cases i with
    | zero => exact ⟨c, h.1⟩
    | succ i =>
      have := chkR_get h.2 i (by simpa using hi)
      rwa [show v + 1 + i = v + (i + 1) by omega] at this

/-- What is shown of a ring. -/
def Ds.Decided (D : Ds) : Prop := ((D.m = 1 ∨ Irr D.p D.mo) → ∃ x, D.Gen x) ∧ (D.m ≠ 1 → ¬ Irr D.p D.mo → ∃ a b, D.R a ∧ D.R b ∧ a ≠ 0 ∧ b ≠ 0 ∧ D.mul a b = 0)

theorem Ds.Okm.decided {D : Ds} (o : D.Okm) {v : Nat} {c : Nat × Nat} (hv : up (digsN D.p D.m v) = D.moL) (h : chk1 D.p D.m v c = true) : D.Decided := by
  have hp := o.p2
  have hlen := o.len
  unfold chk1 at h
  rw [frcL_eq] at h
  have hdg := digsN_DgN (p := D.p) (by omega) D.m v
  have hirr : D.m ≠ 1 → (irrN D.p D.m (1 :: (digsN D.p D.m v).reverse) (D.m / 2) = true ↔ Irr D.p D.mo) := by
    intro hm
    have h1 := Irr_iff (p := D.p) (by omega) hdg
    rw [digsN_length, hv] at h1
    rw [h1]
    unfold Ds.moL
    rw [if_neg hm]
  split at h
  · simp only [Bool.and_eq_true, frcL_eq, Bool.or_eq_true, Nat.beq_eq] at h
    have hg : ∃ x, D.Gen x := ⟨c.1, Ds.gen_of o hv (by have := h.1.2; simp [Nat.blt] at this; unfold Ds.q; omega) h.2⟩
    refine ⟨fun _ => hg, fun h1 h2 => ?_⟩
    rcases h.1.1 with h3 | h3
    · exact (h1 h3).elim
    · exact (h2 ((hirr h1).1 h3)).elim
  · rename_i b hb
    simp only [Bool.and_eq_true, Bool.not_eq_true'] at h
    obtain ⟨⟨⟨⟨h1, h2⟩, h3⟩, h4⟩, h5⟩ := h
    simp [Nat.blt] at h2 h3 h4
    refine ⟨?_, fun hm hI => ⟨c.1, ((b + 1 : Nat) : Int), ⟨by omega, by unfold Ds.q; omega⟩, ⟨by omega, by unfold Ds.q; omega⟩, by omega, by omega, ?_⟩⟩
    · rintro (hm | hI)
      · rw [hm] at h1
        simp [irrN] at h1
      · by_cases hm : D.m = 1
        · rw [hm] at h1
          simp [irrN] at h1
        · rw [(hirr hm).2 hI] at h1; cases h1
    · exact Ds.div_of o hv (by unfold Ds.q; omega) (by unfold Ds.q; omega) h5
end Go.FM

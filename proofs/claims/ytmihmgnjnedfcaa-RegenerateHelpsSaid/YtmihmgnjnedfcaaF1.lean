/- Contracts of functions: orders, primes, digits, values. -/
import Derived.Test.YtmihmgnjnedfcaaAMP
import Derived.Test.YtmihmgnjnedfcaaC3
import Derived.Test.YtmihmgnjnedfcaaFT
set_option maxRecDepth 100000
set_option linter.unusedSimpArgs false
set_option linter.unusedVariables false
namespace Go.AM.Ytmihmgnjnedfcaa
open Go Go.AM
attribute [local simp ↓] awp_seq awp_reg awp_skip awp_cond awp_block awp_exit awp_ret awp_fz thenW_normal thenW_exit thenW_ret inBlk_normal inBlk_exit inBlk_ret aops_cons aops_nil e_mv e_guard e_pick e_ld e_app e_cpy e_st e_call callW_f updO_some updO_none e_bin e_isnil e_fadr e_iadr e_iarr e_len e_build e_mkf e_nc e_not e_neg e_cvt e_slc e_fld e_ext e_min e_eqs e_new e_box e_mkl e_mks
attribute [local simp] upd_apply ev_t ev_k ev_f binA_add binA_sub binA_mul binA_quo binA_rem binA_eql binA_neq binA_lss binA_leq binA_gtr binA_geq det mem frame0 keeps_nil iadrA_sl fadrA_ref fadrA_fp ldv_agg ldv_one cells_base hset_same hset_hset lenA_fs lenA_sl lenA_nils zeros_ints ints_length one_base one_nilp one_nils one_ref one_sl one_fp one_fs one_fn gl_one resA resOf bound natOf afill splice AV.cells cells_agg bindW_some condW_true condW_false condW_dec condW_ndec guardW_tup guardW_true guardW_true' guardW_false guardW_false' allocW_some pickA_true pickA_false
open Go.FM

/-- The order, or 0. -/
def ordE (p m : Int) : Int := if 2 ≤ p ∧ p ≤ 256 ∧ 1 ≤ m ∧ m ≤ 8 ∧ p ^ m.toNat ≤ 256 then p ^ m.toNat else 0

theorem pow_mono {p : Int} (hp : 2 ≤ p) {a b : Nat} (h : a ≤ b) : p ^ a ≤ p ^ b := by
  obtain ⟨q, rfl⟩ : ∃ q : Nat, p = q := ⟨p.toNat, by omega⟩
  have : q ^ a ≤ q ^ b := Nat.pow_le_pow_right (by omega) h
  have h2 : ((q ^ a : Nat) : Int) ≤ ((q ^ b : Nat) : Int) := by omega
  simpa using h2
theorem pow_pos2 {p : Int} (hp : 2 ≤ p) (a : Nat) : 1 ≤ p ^ a := by
  have := pow_mono hp (Nat.zero_le a)
  simpa using this

theorem s_order (p m : Int) : Pure prog n_field_order [I p, I m] (I (ordE p m)) := by
  refine pure_of cf_field_order rfl fun h => ?_
  by_cases c1 : p < 2
  · simp [c1]
    rw [show ordE p m = 0 by simp [ordE]; omega]; exact RetP.same
  by_cases c2 : 256 < p
  · simp [c1, c2]
    rw [show ordE p m = 0 by simp [ordE]; omega]; exact RetP.same
  by_cases c3 : m < 1
  · simp [c1, c2, c3]
    rw [show ordE p m = 0 by simp [ordE]; omega]; exact RetP.same
  by_cases c4 : 8 < m
  · simp [c1, c2, c3, c4]
    rw [show ordE p m = 0 by simp [ordE]; omega]; exact RetP.same
  simp [c1, c2, c3, c4]
  refine awp_for m.toNat (fun k fr' h' => h' = h ∧ fr' 21 = I k ∧ fr' 5 = I (p ^ k) ∧ p ^ k ≤ 256) ⟨rfl, by simp, by simp, by simp⟩ ?_
  intro k fr' h' hkn hk ⟨hh, h21, h5, hq⟩
  subst hh
  have k0 := hk 0 (by decide)
  have k20 := hk 20 (by decide)
  simp at k0 k20
  clear hk
  have hp1 := pow_pos2 (p := p) (by omega) k
  have hsucc : p ^ (k + 1) = p ^ k * p := Int.pow_succ ..
  have hm2 : p ^ k * p ≤ 256 * 256 := Int.mul_le_mul hq (by omega) (by omega) (by omega)
  have hm3 : 0 ≤ p ^ k * p := Int.mul_nonneg (by omega) (by omega)
  by_cases hlt : k < m.toNat
  · have hlt' : (k : Int) < m := by omega
    have u1 : IntKind.i64.wrap (p ^ k * p) = p ^ k * p := w64 _ (by omega)
    have u2 : IntKind.i64.wrap ((k : Int) + 1) = k + 1 := w64 _ (by omega)
    by_cases g : 256 < p ^ k * p
    · simp [h21, h5, k0, k20, hlt', u1, g]
      rw [show ordE p m = 0 by
        have := pow_mono (p := p) (by omega) (show k + 1 ≤ m.toNat by omega)
        simp [ordE]; omega]
      exact RetP.same
    · simp [h21, h5, k0, k20, hlt', u1, g, u2, hsucc]
      omega
  · have : k = m.toNat := by omega
    subst this
    have hlt' : ¬ ((m.toNat : Nat) : Int) < m := by omega
    have hlt2 : max m 0 = m := by omega
    simp [h21, h5, k20, hlt', hlt2]
    rw [show ordE p m = p ^ m.toNat by rw [ordE, if_pos]; omega]
    exact RetP.same

/-- A description's cells. -/
abbrev dcells (p m : Int) (v : AV) : List AV := [I p, I m, v]

theorem ld3_at {h : Hp} {b : Nat} {x y z : AV} (hb : h b = some [x, y, z]) : cellsAt h (.ref b 0) 1 = some [x] ∧ cellsAt h (.ref b 1) 1 = some [y] ∧ cellsAt h (.ref b 2) 1 = some [z] ∧ cellsAt h (.ref b 0) 3 = some [x, y, z] :=
  ⟨ld_one_at hb (by simp), ld_one_at hb (by simp), ld_one_at hb (by simp), ld_at hb (by simp)⟩

theorem s_Order (p m : Int) {v : AV} (hv : one v = true) : Pure prog n_ref04_Order [.agg (dcells p m v)] (I (ordE p m)) := by
  refine pure_of cf_ref04_Order rfl fun h => ?_
  simp [hv]
  intro b1 hb1
  obtain ⟨l0, l1, l2, l3⟩ := ld3_at (hset_same h b1 [I p, I m, v])
  have hk : Kp h (hset h b1 [I p, I m, v]) := (Kp.refl h).new hb1 _
  generalize hset h b1 [I p, I m, v] = g at *
  have fin : ∀ x, ordE p m = x → RetP h (I (ordE p m)) (I x) g := fun x hx => hx ▸ ⟨_, hk.sub, .id _, rfl⟩
  by_cases c1 : p < 2
  · simp [l0, l1, c1]
    exact fin _ (by simp [ordE]; omega)
  by_cases c3 : m < 1
  · simp [l0, l1, c1, c3]
    exact fin _ (by simp [ordE]; omega)
  by_cases c4 : 8 < m
  · simp [l0, l1, c1, c3, c4]
    exact fin _ (by simp [ordE]; omega)
  simp [l0, l1, c1, c3, c4]
  refine awp_for m.toNat (fun k fr' h' => h' = g ∧ fr' 4 = I k ∧ fr' 3 = I (p ^ k) ∧ p ^ k ≤ 256) ⟨rfl, by simp, by simp, by simp⟩ ?_
  intro k fr' h' hkn hk' ⟨hh, h4, h5, hq⟩
  subst hh
  have k1 := hk' 1 (by decide)
  simp at k1
  clear hk'
  have hp1 := pow_pos2 (p := p) (by omega) k
  have hsucc : p ^ (k + 1) = p ^ k * p := Int.pow_succ ..
  by_cases hlt : k < m.toNat
  · have hlt' : (k : Int) < m := by omega
    have hp0 : p ≠ 0 := by omega
    have hd : (256 : Int).tdiv p = 256 / p := Int.tdiv_eq_ediv_of_nonneg (by omega)
    have hd2 : 0 ≤ 256 / p := Int.ediv_nonneg (by omega) (by omega)
    have hd3 : 256 / p ≤ 256 := Int.ediv_le_self _ (by omega)
    have u0 : IntKind.i64.wrap (256 / p) = 256 / p := w64 _ (by omega)
    have u2 : IntKind.i64.wrap ((k : Int) + 1) = k + 1 := w64 _ (by omega)
    by_cases g : 256 / p < p ^ k
    · simp [h4, h5, k1, l0, l1, hlt', hp0, hd, u0, g]
      refine fin _ ?_
      have h1 : 256 < p ^ k * p := Int.lt_mul_of_ediv_lt (by omega) g
      have := pow_mono (p := p) (by omega) (show k + 1 ≤ m.toNat by omega)
      simp [ordE]; omega
    · have h1 : p ^ k * p ≤ 256 := by
        have : p ^ k * p ≤ 256 / p * p := Int.mul_le_mul_of_nonneg_right (by omega) (by omega)
        have := Int.ediv_mul_le 256 (b := p) (by omega)
        omega
      have hm3 : 0 ≤ p ^ k * p := Int.mul_nonneg (by omega) (by omega)
      have u1 : IntKind.i64.wrap (p ^ k * p) = p ^ k * p := w64 _ (by omega)
      simp [h4, h5, k1, l0, l1, hlt', hp0, hd, u0, u1, g, u2, hsucc]
      omega
  · have : k = m.toNat := by omega
    subst this
    have hlt' : ¬ ((m.toNat : Nat) : Int) < m := by omega
    have hlt2 : max m 0 = m := by omega
    simp [h4, h5, k1, l0, l1, hlt', hlt2]
    refine fin _ ?_
    have : p ≤ p ^ m.toNat := by
      have := pow_mono (p := p) (by omega) (show 1 ≤ m.toNat by omega)
      have e1 : p ^ 1 = p := by rw [Int.pow_succ]; simp
      omega
    rw [ordE, if_pos]; omega

theorem isP_of_sqrt {n D : Nat} (hn : 2 ≤ n) (h : ∀ e, 2 ≤ e → e < D → n % e ≠ 0) (hD : n < D * D) : IsP n := by
  refine ⟨hn, fun e h2 hlt he => ?_⟩
  have h3 : e * (n / e) = n := by have := Nat.div_add_mod n e; omega
  by_cases h4 : e < D
  · exact h e h2 h4 he
  · have h5 : n / e < D := by
      apply Classical.byContradiction
      intro hc
      have : D * D ≤ e * (n / e) := Nat.mul_le_mul (by omega) (by omega)
      omega
    have h6 : 2 ≤ n / e := by
      apply Classical.byContradiction
      intro hc
      have : n / e ≤ 1 := by omega
      have : e * (n / e) ≤ e * 1 := Nat.mul_le_mul_left _ this
      omega
    refine h (n / e) h6 h5 ?_
    have := Nat.mul_mod_left e (n / e)
    rwa [h3] at this

open Classical in
theorem s_isPrime (n : Nat) (hn : n ≤ 256) : Pure prog n_field_isPrime [I n] (B (decide (IsP n))) := by
  refine pure_of cf_field_isPrime rfl fun h => ?_
  simp
  refine awp_for n (fun k fr' h' => h' = h ∧ fr' 3 = I (k + 2) ∧ ∀ e, 2 ≤ e → e < k + 2 → n % e ≠ 0) ⟨rfl, by simp, fun e h1 h2 => by omega⟩ ?_
  intro k fr' h' hkn hk ⟨hh, h3, hx⟩
  subst hh
  have k0 := hk 0 (by decide)
  simp at k0
  clear hk
  have hm : (0 : Int) ≤ ((k : Int) + 2) * (k + 2) := Int.mul_nonneg (by omega) (by omega)
  have hm2 : ((k : Int) + 2) * (k + 2) ≤ 258 * 258 := Int.mul_le_mul (by omega) (by omega) (by omega) (by omega)
  have u1 : IntKind.i64.wrap (((k : Int) + 2) * (k + 2)) = ((k : Int) + 2) * (k + 2) := w64 _ (by omega)
  have hcast : (((k + 2) * (k + 2) : Nat) : Int) = ((k : Int) + 2) * (k + 2) := by simp
  by_cases c : ((k : Int) + 2) * (k + 2) ≤ n
  · have hc : (k + 2) * (k + 2) ≤ n := by omega
    have hkk : (k + 2) * 2 ≤ (k + 2) * (k + 2) := Nat.mul_le_mul_left _ (by omega)
    have h0 : (k : Int) + 2 ≠ 0 := by omega
    have ht : (n : Int).tmod ((k : Int) + 2) = ((n % (k + 2) : Nat) : Int) := by
      rw [Int.ofNat_tmod]; rfl
    by_cases d : n % (k + 2) = 0
    · simp [h3, k0, u1, c, h0, ht, d]
      rw [show decide (IsP n) = false by
        refine decide_eq_false fun hp => hp.2 (k + 2) (by omega) (by omega) d]
      exact RetP.same
    · have u2 : IntKind.i64.wrap ((k : Int) + 2 + 1) = k + 1 + 2 := by rw [w64 _ (by omega)]; omega
      have d' : ¬ (n : Int) % ((k : Int) + 2) = 0 := by
        intro hc
        have : ((n % (k + 2) : Nat) : Int) = 0 := by rw [Int.natCast_emod]; simpa using hc
        omega
      simp [h3, k0, u1, c, h0, ht, u2]
      rw [if_neg d']
      refine ⟨by omega, fun e h1 h2 => ?_⟩
      by_cases he : e = k + 2
      · subst he; exact d
      · exact hx e h1 (by omega)
  · simp [h3, k0, u1, c]
    rw [show decide (IsP n) = decide (2 ≤ (n : Int)) by
      by_cases h2 : 2 ≤ n
      · rw [decide_eq_true (isP_of_sqrt h2 hx (by omega)), decide_eq_true (by omega)]
      · rw [decide_eq_false (fun hp => h2 hp.1), decide_eq_false (by omega)]]
    exact RetP.same

open Classical in
theorem s_prime (n : Nat) (hn : n ≤ 256) (h2 : 2 ≤ n) : Pure prog n_ref04_prime [I n] (B (decide (IsP n))) := by
  refine pure_of cf_ref04_prime rfl fun h => ?_
  simp
  refine awp_for n (fun k fr' h' => h' = h ∧ fr' 3 = I (k + 2) ∧ k + 2 ≤ n ∧ ∀ e, 2 ≤ e → e < k + 2 → n % e ≠ 0) ⟨rfl, by simp, by omega, fun e h1 h2 => by omega⟩ ?_
  intro k fr' h' hkn hk ⟨hh, h3, hle, hx⟩
  subst hh
  have k0 := hk 0 (by decide)
  simp at k0
  clear hk
  by_cases c : (k : Int) + 2 < n
  · have h0 : (k : Int) + 2 ≠ 0 := by omega
    have ht : (n : Int).tmod ((k : Int) + 2) = ((n % (k + 2) : Nat) : Int) := by
      rw [Int.ofNat_tmod]; rfl
    by_cases d : n % (k + 2) = 0
    · simp [h3, k0, c, h0, ht, d]
      rw [show decide (IsP n) = false by
        refine decide_eq_false fun hp => hp.2 (k + 2) (by omega) (by omega) d]
      exact RetP.same
    · have u2 : IntKind.i64.wrap ((k : Int) + 2 + 1) = k + 1 + 2 := by rw [w64 _ (by omega)]; omega
      have d' : ¬ (n : Int) % ((k : Int) + 2) = 0 := by
        intro hc
        have : ((n % (k + 2) : Nat) : Int) = 0 := by rw [Int.natCast_emod]; simpa using hc
        omega
      simp [h3, k0, c, h0, ht, u2]
      rw [if_neg d']
      refine ⟨by omega, by omega, fun e h1 h2 => ?_⟩
      by_cases he : e = k + 2
      · subst he; exact d
      · exact hx e h1 (by omega)
  · simp [h3, k0, c]
    rw [show decide (IsP n) = true from decide_eq_true ⟨h2, fun d h1 h2 => hx d h1 (by omega)⟩]
    exact RetP.same
end Go.AM.Ytmihmgnjnedfcaa

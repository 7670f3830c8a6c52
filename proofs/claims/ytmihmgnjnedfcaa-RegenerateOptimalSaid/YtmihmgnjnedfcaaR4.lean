/- Contracts of functions: Cut, and the law of the optimum. -/
import Derived.Test.YtmihmgnjnedfcaaR3
set_option maxRecDepth 100000
set_option linter.unusedSimpArgs false
set_option linter.unusedVariables false
namespace Go.AM.Ytmihmgnjnedfcaa
open Go Go.AM
attribute [local simp ↓] awp_seq awp_reg awp_skip awp_cond awp_block awp_exit awp_ret awp_fz thenW_normal thenW_exit thenW_ret inBlk_normal inBlk_exit inBlk_ret aops_cons aops_nil e_mv e_guard e_pick e_ld e_app e_cpy e_st e_call callW_f updO_some updO_none e_bin e_isnil e_fadr e_iadr e_iarr e_len e_build e_mkf e_nc e_not e_neg e_cvt e_slc e_fld e_ext e_min e_eqs e_new e_box e_mkl e_mks
attribute [local simp] upd_apply ev_t ev_k ev_f binA_add binA_sub binA_mul binA_quo binA_rem binA_eql binA_neq binA_lss binA_leq binA_gtr binA_geq det mem frame0 keeps_nil iadrA_sl fadrA_ref fadrA_fp ldv_agg ldv_one cells_base hset_same hset_hset lenA_fs lenA_sl lenA_nils zeros_ints ints_length one_base one_nilp one_nils one_ref one_sl one_fp one_fs one_fn gl_one resA resOf bound natOf afill splice AV.cells cells_agg bindW_some condW_true condW_false condW_dec condW_ndec guardW_tup guardW_true guardW_true' guardW_false guardW_false' allocW_some pickA_true pickA_false
open Go.FM

/-- The bound. -/
def cutS (d a b : Int) : Nat → Int
  | 0 => 0
  | k + 1 => cutS d a b k + min a ((d - k) * b)

theorem cutS_bd {d a b : Int} (hd : d ≤ 64) (ha : 0 ≤ a ∧ a ≤ 1048576) (hb : 0 ≤ b) : ∀ k : Nat, (k : Int) ≤ d → 0 ≤ cutS d a b k ∧ cutS d a b k ≤ 1048576 * k
  | 0, _ => by simp [cutS]
  | k + 1, hk => by
    have ih := cutS_bd hd ha hb k (by omega)
    have h1 : 0 ≤ (d - k) * b := Int.mul_nonneg (by omega) hb
    simp only [cutS]
    have h2 : min a ((d - k) * b) ≤ a := Int.min_le_left _ _
    have h3 : 0 ≤ min a ((d - k) * b) := by rw [Int.le_min]; exact ⟨ha.1, h1⟩
    omega

set_option maxHeartbeats 2000000 in
theorem s_Cut {k d a b : Int} (hk : 1 ≤ k) (hkd : k ≤ d) (hd : d ≤ 64) (ha : 0 ≤ a ∧ a ≤ 1048576) (hb : 0 ≤ b ∧ b ≤ 1048576) : Pure prog n_regenerate_Cut [I k, I d, I a, I b] (.tup [I (cutS d a b k.toNat), I 0]) := by
  refine pure_of cf_regenerate_Cut rfl fun h => ?_
  have c1 : ¬ k < 1 := by omega
  have c2 : ¬ d < k := by omega
  have c3 : ¬ 64 < d := by omega
  have c4 : ¬ a < 0 := by omega
  have c5 : ¬ 1048576 < a := by omega
  have c6 : ¬ b < 0 := by omega
  have c7 : ¬ 1048576 < b := by omega
  simp [c1, c2, c3, c4, c5, c6, c7]
  refine awp_for k.toNat (fun i fr' h' => h' = h ∧ fr' 40 = I i ∧ fr' 10 = I (cutS d a b i)) ⟨rfl, by simp, by simp [cutS]⟩ ?_
  intro i fr' h' hin hkk ⟨hh, k40, k10⟩
  subst hh
  have k1 := hkk 1 (by decide)
  have k2 := hkk 2 (by decide)
  have k3 := hkk 3 (by decide)
  have k39 := hkk 39 (by decide)
  simp at k1 k2 k3 k39
  clear hkk
  by_cases hi : i < k.toNat
  · have hi' : (i : Int) < k := by omega
    have hbd := cutS_bd (d := d) (a := a) (b := b) hd ha hb.1 (i + 1) (by omega)
    have hm1 : 0 ≤ (d - i) * b := Int.mul_nonneg (by omega) hb.1
    have hm2 : (d - i) * b ≤ 64 * 1048576 := Int.mul_le_mul (by omega) hb.2 hb.1 (by omega)
    have u1 : IntKind.i64.wrap (d - i) = d - i := w64 _ (by omega)
    have u2 : IntKind.i64.wrap ((d - i) * b) = (d - i) * b := w64 _ (by omega)
    have u3 : IntKind.i64.wrap (cutS d a b i + min a ((d - i) * b)) = cutS d a b (i + 1) := by
      show IntKind.i64.wrap (cutS d a b (i + 1)) = _
      exact w64 _ (by omega)
    have u4 : IntKind.i64.wrap ((i : Int) + 1) = i + 1 := w64 _ (by omega)
    have hmin : (if (d - i) * b < a then (d - i) * b else a) = min a ((d - i) * b) := by omega
    rw [← hmin] at u3
    simp [k1, k2, k3, k39, k40, k10, hi', u1, u2, u3, u4]
  · have : i = k.toNat := by omega
    subst this
    have hi' : ¬ ((k.toNat : Nat) : Int) < k := by omega
    have hmx : max k 0 = k := by omega
    simp [k39, k40, k10, hi', hmx]
    exact RetP.same

theorem cut_kd0 (d : Int) : ∀ k : Nat, (k : Int) ≤ d → 2 * cutS d d 1 k = 2 * (k * d) - k * (k - 1)
  | 0, _ => by simp [cutS]
  | k + 1, hk => by
    have ih := cut_kd0 d k (by omega)
    simp only [cutS]
    rw [Int.mul_one, show min d (d - k) = d - k by omega, Int.mul_add, ih]
    push_cast
    grind

theorem cut_kd1 (a : Int) : ∀ k : Nat, (k : Int) ≤ a + 1 → cutS (2 * a) a 1 k = k * a
  | 0, _ => by simp [cutS]
  | k + 1, hk => by
    have ih := cut_kd1 a k (by omega)
    simp only [cutS]
    rw [Int.mul_one, show min a (2 * a - k) = a by omega, ih]
    push_cast
    grind

theorem Rc.Okn.cut {R : Rc} (o : R.Okn) : cutS R.d R.szN 1 R.k.toNat = R.szF ∧ 1 ≤ R.szF := by
  have h1 := o.k1
  have h2 := o.kd2
  have h3 := o.d
  obtain ⟨kn, hkn⟩ : ∃ n : Nat, R.k = n := ⟨R.k.toNat, by omega⟩
  rw [show R.k.toNat = kn by omega]
  unfold Rc.szF Rc.szN
  rcases o.kd with kd | kd
  · rw [if_neg (by omega), if_neg (by omega)]
    have hc := cut_kd0 R.d kn (by omega)
    rw [hkn]
    have he : ((kn : Int) * (kn - 1)) % 2 = 0 := by
      rcases Int.emod_two_eq (kn : Int) with h | h
      · rw [Int.mul_emod, h]; simp
      · have : ((kn : Int) - 1) % 2 = 0 := by omega
        rw [Int.mul_emod, this]; simp
    have hge : (kn : Int) * kn ≤ kn * R.d := Int.mul_le_mul_of_nonneg_left (by omega) (by omega)
    have hex : (kn : Int) * (kn - 1) = kn * kn - kn := by grind
    have hk1 : (kn : Int) ≤ kn * kn := by
      have := Int.mul_le_mul_of_nonneg_left (show (1 : Int) ≤ kn by omega) (show (0 : Int) ≤ kn by omega)
      simpa using this
    generalize (kn : Int) * (kn - 1) = m1 at *
    generalize (kn : Int) * R.d = m2 at *
    generalize (kn : Int) * kn = m3 at *
    omega
  · have hst := o.st kd
    rw [if_pos kd, if_pos kd]
    have hc := cut_kd1 (R.k - 1) kn (by omega)
    rw [hst, show 2 * R.k - 2 = 2 * (R.k - 1) by omega, hc, ← hkn]
    refine ⟨rfl, ?_⟩
    have : 1 * 1 ≤ R.k * (R.k - 1) := Int.mul_le_mul (by omega) (by omega) (by omega) (by omega)
    omega

theorem min_scale {t s a c : Int} (hs : 0 ≤ s) (hst : s ≤ t) (hc : 0 ≤ c) : min (t * a) (c * s) ≤ t * min a (c * 1) := by
  have h1 : c * s ≤ c * t := Int.mul_le_mul_of_nonneg_left hst hc
  rw [Int.mul_comm c t] at h1
  rw [Int.mul_one]
  rcases Int.le_total a c with h | h
  · rw [Int.min_eq_left h]; exact Int.min_le_left _ _
  · rw [Int.min_eq_right h]
    exact Int.le_trans (Int.min_le_right _ _) h1

theorem cut_le {d a t s : Int} (hs : 0 ≤ s) (hst : s ≤ t) : ∀ k : Nat, (k : Int) ≤ d → cutS d (t * a) s k ≤ t * cutS d a 1 k
  | 0, _ => by simp [cutS]
  | k + 1, hk => by
    have ih := cut_le (d := d) (a := a) hs hst k (by omega)
    simp only [cutS]
    rw [Int.mul_add]
    have := min_scale (a := a) hs hst (c := d - (k : Int)) (by omega)
    omega

theorem Rc.Okn.cut_lt {R : Rc} (o : R.Okn) {t s : Int} (hs : 0 ≤ s) (hst : s < t) : cutS R.d (t * R.szN) s R.k.toNat < t * R.szF := by
  have h1 := o.k1
  have h2 := o.kd2
  have h3 := o.d
  rw [← o.cut.1]
  obtain ⟨kn, hkn⟩ : ∃ n : Nat, R.k = n + 1 := ⟨(R.k - 1).toNat, by omega⟩
  rw [show R.k.toNat = kn + 1 by omega]
  simp only [cutS]
  rw [Int.mul_add]
  have hle := cut_le (d := R.d) (a := R.szN) hs (Int.le_of_lt hst) kn (by omega)
  have hc : 1 ≤ R.d - kn := by omega
  have hlast : min R.szN ((R.d - kn) * 1) = R.d - kn := by
    rw [Int.mul_one]
    unfold Rc.szN
    rcases o.kd with kd | kd
    · rw [if_neg (by omega)]; omega
    · have := o.st kd
      rw [if_pos kd]; omega
  rw [hlast]
  have hstrict : min (t * R.szN) ((R.d - kn) * s) < t * (R.d - kn) := by
    refine Int.lt_of_le_of_lt (Int.min_le_right _ _) ?_
    rw [Int.mul_comm t]
    exact Int.mul_lt_mul_of_pos_left hst (by omega)
  omega

set_option maxHeartbeats 2000000 in
theorem s_RegenerateOptimal {R : Rc} {mv pv : AV} (hmv : IL mv R.mo) (hml : R.mo.length < 4611686018427387904) (hpv : IL pv R.pts) (hpl : R.pts.length < 4611686018427387904) {t s : Int} (ht : 0 ≤ t ∧ t ≤ 255) (hs : 0 ≤ s ∧ s ≤ 255) :
    Pure prog n_law52_RegenerateOptimal [.agg (R.cells mv pv), .base (.int .u8 t), .base (.int .u8 s)] (B true) := by
  refine pure_of cf_law52_RegenerateOptimal rfl fun h => ?_
  have hone := hmv.one
  have hone2 := hpv.one
  unfold c_law52_RegenerateOptimal_0 c_law52_RegenerateOptimal_1
  generalize hC2 : c_law52_RegenerateOptimal_2 = C2
  simp [hone, hone2]
  intro b3 hb3
  obtain ⟨l0, l3, l4, l5, l6, l7⟩ := ld7_at (hset_same h b3 (R.cells mv pv))
  have hkg : Kp h (hset h b3 (R.cells mv pv)) := (Kp.refl h).new hb3 _
  generalize hset h b3 (R.cells mv pv) = g at *
  have fin : RetP h (B true) (B true) g := ⟨_, hkg.sub, .id _, rfl⟩
  simp [l7]
  refine (s_refCheck52 hmv hml hpv hpl).call ?_
  by_cases hE : R.E = 0
  case neg =>
    simp [hE]
    exact fin
  rw [hE]
  have ok := (Rc.E0 hE).2.2.2.1
  have h1 := ok.k1
  have h2 := ok.kd2
  have h3 := ok.d
  obtain ⟨hcut1, hcut2⟩ := ok.cut
  have hN : 0 ≤ R.szN ∧ R.szN ≤ 63 := by
    unfold Rc.szN
    split <;> omega
  have hF : R.szF ≤ 64 * 64 := by
    have := ok.bd
    unfold Rc.szF
    split
    · omega
    · have : 0 ≤ R.k * (R.k - 1) / 2 := Int.ediv_nonneg (by omega) (by omega)
      omega
  subst hC2
  unfold c_law52_RegenerateOptimal_2
  generalize hC3 : c_law52_RegenerateOptimal_3 = C3
  simp [l7]
  refine (s_Size hmv hml hpv hpl).call ?_
  rw [sizeR, if_pos hE]
  simp
  subst hC3
  unfold c_law52_RegenerateOptimal_3
  generalize hC4 : c_law52_RegenerateOptimal_4 = C4
  simp [l4, l5]
  refine (s_Cut h1 h2 (by omega) ⟨hN.1, by omega⟩ (b := 1) (by omega)).call ?_
  rw [hcut1]
  simp
  subst hC4
  unfold c_law52_RegenerateOptimal_4 c_law52_RegenerateOptimal_5
  generalize hC6 : c_law52_RegenerateOptimal_6 = C6
  have hF1 : ¬ R.szF < 1 := by omega
  by_cases hts : t ≤ s
  · simp [hF1, hts]
    exact fin
  simp [hF1, hts]
  subst hC6
  unfold c_law52_RegenerateOptimal_6
  generalize hC7 : c_law52_RegenerateOptimal_7 = C7
  have hm1 : 0 ≤ t * R.szN := Int.mul_nonneg ht.1 hN.1
  have hm2 : t * R.szN ≤ 255 * 63 := Int.mul_le_mul ht.2 hN.2 hN.1 (by omega)
  have ut : IntKind.i64.wrap t = t := w64 _ (by omega)
  have us : IntKind.i64.wrap s = s := w64 _ (by omega)
  have um : IntKind.i64.wrap (t * R.szN) = t * R.szN := w64 _ (by omega)
  simp [l4, l5, ut, us, um]
  refine (s_Cut h1 h2 (by omega) ⟨hm1, by omega⟩ (b := s) (by omega)).call ?_
  have hlt := ok.cut_lt hs.1 (show s < t by omega)
  have hm3 : 0 ≤ t * R.szF := Int.mul_nonneg ht.1 (by omega)
  have hm4 : t * R.szF ≤ 255 * (64 * 64) := Int.mul_le_mul ht.2 hF (by omega) (by omega)
  have uf : IntKind.i64.wrap (t * R.szF) = t * R.szF := w64 _ (by omega)
  subst hC7
  simp [ut, uf, hlt]
  exact fin
end Go.AM.Ytmihmgnjnedfcaa

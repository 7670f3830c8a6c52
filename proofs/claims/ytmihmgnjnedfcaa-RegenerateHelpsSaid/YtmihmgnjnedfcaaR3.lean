/- Contracts of functions: sizes, and the law of the checks. -/
import Derived.Test.YtmihmgnjnedfcaaR2
set_option maxRecDepth 100000
set_option linter.unusedSimpArgs false
set_option linter.unusedVariables false
namespace Go.AM.Ytmihmgnjnedfcaa
open Go Go.AM
attribute [local simp ↓] awp_seq awp_reg awp_skip awp_cond awp_block awp_exit awp_ret awp_fz thenW_normal thenW_exit thenW_ret inBlk_normal inBlk_exit inBlk_ret aops_cons aops_nil e_mv e_guard e_pick e_ld e_app e_cpy e_st e_call callW_f updO_some updO_none e_bin e_isnil e_fadr e_iadr e_iarr e_len e_build e_mkf e_nc e_not e_neg e_cvt e_slc e_fld e_ext e_min e_eqs e_new e_box e_mkl e_mks
attribute [local simp] upd_apply ev_t ev_k ev_f binA_add binA_sub binA_mul binA_quo binA_rem binA_eql binA_neq binA_lss binA_leq binA_gtr binA_geq det mem frame0 keeps_nil iadrA_sl fadrA_ref fadrA_fp ldv_agg ldv_one cells_base hset_same hset_hset lenA_fs lenA_sl lenA_nils zeros_ints ints_length one_base one_nilp one_nils one_ref one_sl one_fp one_fs one_fn gl_one resA resOf bound natOf afill splice AV.cells cells_agg bindW_some condW_true condW_false condW_dec condW_ndec guardW_tup guardW_true guardW_true' guardW_false guardW_false' allocW_some pickA_true pickA_false
open Go.FM

structure Rc.Okn (R : Rc) : Prop where
  kd : R.kd = 0 ∨ R.kd = 1
  k1 : 1 ≤ R.k
  kd2 : R.k ≤ R.d
  d : R.d ≤ 63
  st : R.kd = 1 → R.d = 2 * R.k - 2

theorem Rc.E0 {R : Rc} (h : R.E = 0) : FieldP R.p R.m R.mo ∧ 2 ≤ R.pts.length ∧ R.pts.length ≤ 64 ∧ R.Okn ∧ R.d < R.pts.length ∧ (∀ x ∈ R.pts, R.D.R x) ∧ R.pts.Nodup ∧ (R.kd = 1 → (R.pts.map fun x => R.D.pw x (R.k - 1).toNat).Nodup) := by
  classical
  unfold Rc.E at h
  split at h
  · omega
  rename_i h1
  split at h
  · omega
  rename_i h2
  split at h
  · omega
  rename_i h3
  split at h
  · omega
  rename_i h4
  split at h
  · omega
  rename_i h5
  split at h
  · omega
  rename_i h6
  have h3' : R.Num := Classical.byContradiction fun hc => h3 hc
  have h3'' : ¬((R.kd ≠ 0 ∧ R.kd ≠ 1) ∨ R.d < 1 ∨ (R.pts.length : Int) - 1 < R.d ∨ R.k < 1 ∨ R.d < R.k ∨ (R.kd = 1 ∧ R.d ≠ 2 * R.k - 2)) := h3'
  refine ⟨Classical.byContradiction fun hc => h1 hc, by omega, by omega, ⟨by omega, by omega, by omega, by omega, by omega⟩, by omega, Classical.byContradiction fun hc => h4 hc, Classical.byContradiction fun hc => h5 hc, fun hk => Classical.byContradiction fun hc => h6 ⟨hk, hc⟩⟩

/-- The sizes of a file and of a content. -/
def Rc.szF (R : Rc) : Int := if R.kd = 1 then R.k * (R.k - 1) else R.k * R.d - R.k * (R.k - 1) / 2
def Rc.szN (R : Rc) : Int := if R.kd = 1 then R.k - 1 else R.d

theorem Rc.Okn.bd {R : Rc} (o : R.Okn) : 0 ≤ R.k * (R.k - 1) ∧ R.k * (R.k - 1) ≤ 64 * 64 ∧ 0 ≤ R.k * R.d ∧ R.k * R.d ≤ 64 * 64 := by
  have h1 := o.k1
  have h2 := o.kd2
  have h3 := o.d
  exact ⟨Int.mul_nonneg (by omega) (by omega), Int.mul_le_mul (by omega) (by omega) (by omega) (by omega), Int.mul_nonneg (by omega) (by omega), Int.mul_le_mul (by omega) (by omega) (by omega) (by omega)⟩

theorem s_sizes {R : Rc} (o : R.Okn) {mv pv : AV} (hone : one mv = true) (hone2 : one pv = true) : Pure prog n_regenerate_sizes [.agg (R.cells mv pv)] (.tup [I R.szF, I R.szN]) := by
  refine pure_of cf_regenerate_sizes rfl fun h => ?_
  simp [hone, hone2]
  intro b1 hb1
  obtain ⟨l0, l3, l4, l5, l6, l7⟩ := ld7_at (hset_same h b1 (R.cells mv pv))
  have hkg : Kp h (hset h b1 (R.cells mv pv)) := (Kp.refl h).new hb1 _
  generalize hset h b1 (R.cells mv pv) = g at *
  obtain ⟨b1', b2, b3, b4⟩ := o.bd
  have h1 := o.k1
  have h2 := o.kd2
  have h3 := o.d
  have u1 : IntKind.i64.wrap (R.k - 1) = R.k - 1 := w64 _ (by omega)
  unfold Rc.szF Rc.szN
  generalize hm1 : R.k * (R.k - 1) = m1 at *
  generalize hm2 : R.k * R.d = m2 at *
  have u2 : IntKind.i64.wrap m1 = m1 := w64 _ (by omega)
  have u3 : IntKind.i64.wrap m2 = m2 := w64 _ (by omega)
  have t1 : m1.tdiv 2 = m1 / 2 := Int.tdiv_eq_ediv_of_nonneg (by omega)
  have u4 : IntKind.i64.wrap (m1 / 2) = m1 / 2 := w64 _ (by omega)
  have u5 : IntKind.i64.wrap (m2 - m1 / 2) = m2 - m1 / 2 := w64 _ (by omega)
  by_cases kd : R.kd = 1
  · simp [l3, l4, kd, u1, hm1, u2]
    exact ⟨_, hkg.sub, .id _, rfl⟩
  · simp [l3, l4, l5, kd, u1, hm1, hm2, u2, u3, t1, u4, u5]
    exact ⟨_, hkg.sub, .id _, rfl⟩

theorem s_refSize {R : Rc} (o : R.Okn) {mv pv : AV} (hone : one mv = true) (hone2 : one pv = true) : Pure prog n_ref52_Size [.agg (R.cells mv pv)] (.tup [I R.szF, I R.szN]) := by
  refine pure_of cf_ref52_Size rfl fun h => ?_
  simp [hone, hone2]
  intro b1 hb1
  obtain ⟨l0, l3, l4, l5, l6, l7⟩ := ld7_at (hset_same h b1 (R.cells mv pv))
  have hkg : Kp h (hset h b1 (R.cells mv pv)) := (Kp.refl h).new hb1 _
  generalize hset h b1 (R.cells mv pv) = g at *
  obtain ⟨b1', b2, b3, b4⟩ := o.bd
  have h1 := o.k1
  have h2 := o.kd2
  have h3 := o.d
  have u1 : IntKind.i64.wrap (R.k - 1) = R.k - 1 := w64 _ (by omega)
  unfold Rc.szF Rc.szN
  generalize hm1 : R.k * (R.k - 1) = m1 at *
  generalize hm2 : R.k * R.d = m2 at *
  have u2 : IntKind.i64.wrap m1 = m1 := w64 _ (by omega)
  have u3 : IntKind.i64.wrap m2 = m2 := w64 _ (by omega)
  have t1 : m1.tdiv 2 = m1 / 2 := Int.tdiv_eq_ediv_of_nonneg (by omega)
  have u4 : IntKind.i64.wrap (m1 / 2) = m1 / 2 := w64 _ (by omega)
  have u5 : IntKind.i64.wrap (m2 - m1 / 2) = m2 - m1 / 2 := w64 _ (by omega)
  rcases o.kd with kd | kd
  · simp [l3, l4, l5, kd, u1, hm1, hm2, u2, u3, t1, u4, u5]
    exact ⟨_, hkg.sub, .id _, rfl⟩
  · simp [l3, l4, kd, u1, hm1, u2]
    exact ⟨_, hkg.sub, .id _, rfl⟩

/-- What Size gives. -/
def sizeR (e f n : Int) : AV := if e = 0 then .tup [I f, I n, I 0] else .tup [I 0, I 0, I e]

theorem s_Size {R : Rc} {mv pv : AV} (hmv : IL mv R.mo) (hml : R.mo.length < 4611686018427387904) (hpv : IL pv R.pts) (hpl : R.pts.length < 4611686018427387904) :
    Pure prog n_regenerate_Size [.agg (R.cells mv pv)] (sizeR R.E R.szF R.szN) := by
  refine pure_of cf_regenerate_Size rfl fun h => ?_
  have hone := hmv.one
  have hone2 := hpv.one
  simp [hone, hone2]
  intro b1 hb1
  obtain ⟨l0, l3, l4, l5, l6, l7⟩ := ld7_at (hset_same h b1 (R.cells mv pv))
  have hkg : Kp h (hset h b1 (R.cells mv pv)) := (Kp.refl h).new hb1 _
  generalize hset h b1 (R.cells mv pv) = g at *
  simp [l7]
  refine (s_regCheck hmv hml hpv hpl).call ?_
  unfold sizeR
  by_cases hE : R.E = 0
  · rw [if_pos hE, hE]
    simp [l7]
    refine (s_sizes (Rc.E0 hE).2.2.2.1 hone hone2).call ?_
    simp
    exact ⟨_, hkg.sub, .id _, rfl⟩
  · rw [if_neg hE]
    simp [hE]
    exact ⟨_, hkg.sub, .id _, rfl⟩

theorem s_RegenerateChecks {R : Rc} {mv pv : AV} (hmv : IL mv R.mo) (hml : R.mo.length < 4611686018427387904) (hpv : IL pv R.pts) (hpl : R.pts.length < 4611686018427387904) :
    Pure prog n_law52_RegenerateChecks [.agg (R.cells mv pv)] (B true) := by
  refine pure_of cf_law52_RegenerateChecks rfl fun h => ?_
  have hone := hmv.one
  have hone2 := hpv.one
  unfold c_law52_RegenerateChecks_0 c_law52_RegenerateChecks_1
  generalize hC2 : c_law52_RegenerateChecks_2 = C2
  simp [hone, hone2]
  intro b1 hb1
  obtain ⟨l0, l3, l4, l5, l6, l7⟩ := ld7_at (hset_same h b1 (R.cells mv pv))
  have hkg : Kp h (hset h b1 (R.cells mv pv)) := (Kp.refl h).new hb1 _
  generalize hset h b1 (R.cells mv pv) = g at *
  have fin : RetP h (B true) (B true) g := ⟨_, hkg.sub, .id _, rfl⟩
  by_cases n1 : 80 < R.pts.length
  · have n1' : 80 < (R.pts.length : Int) := by omega
    simp [l6, hpv.len, n1, n1']
    exact fin
  have n1' : ¬ 80 < (R.pts.length : Int) := by omega
  simp [l6, hpv.len, n1, n1']
  subst hC2
  unfold c_law52_RegenerateChecks_2 c_law52_RegenerateChecks_3
  generalize hC4 : c_law52_RegenerateChecks_4 = C4
  simp [l7]
  refine (s_Size hmv hml hpv hpl).call ?_
  unfold sizeR
  by_cases hE : R.E = 0
  · rw [if_pos hE]
    simp [l7]
    refine (s_refCheck52 hmv hml hpv hpl).call ?_
    subst hC4
    unfold c_law52_RegenerateChecks_4 c_law52_RegenerateChecks_5
    generalize hC6 : c_law52_RegenerateChecks_6 = C6
    rw [hE]
    simp [l7]
    refine (s_refSize (Rc.E0 hE).2.2.2.1 hone hone2).call ?_
    subst hC6
    simp [l7]
    refine (s_regCheck hmv hml hpv hpl).call ?_
    rw [hE]
    simp
    exact fin
  · rw [if_neg hE]
    simp [l7]
    refine (s_refCheck52 hmv hml hpv hpl).call ?_
    subst hC4
    unfold c_law52_RegenerateChecks_4
    generalize hC5 : c_law52_RegenerateChecks_5 = C5
    simp [hE, l7]
    refine (s_regCheck hmv hml hpv hpl).call ?_
    simp [hE]
    exact fin
end Go.AM.Ytmihmgnjnedfcaa

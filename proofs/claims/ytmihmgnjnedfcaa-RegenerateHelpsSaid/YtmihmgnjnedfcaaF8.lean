/- Contracts of functions: the reference's elements and product. -/
import Derived.Test.YtmihmgnjnedfcaaF7
import Derived.Test.YtmihmgnjnedfcaaC4
set_option maxRecDepth 100000
set_option linter.unusedSimpArgs false
set_option linter.unusedVariables false
namespace Go.AM.Ytmihmgnjnedfcaa
open Go Go.AM
attribute [local simp ↓] awp_seq awp_reg awp_skip awp_cond awp_block awp_exit awp_ret awp_fz thenW_normal thenW_exit thenW_ret inBlk_normal inBlk_exit inBlk_ret aops_cons aops_nil e_mv e_guard e_pick e_ld e_app e_cpy e_st e_call callW_f updO_some updO_none e_bin e_isnil e_fadr e_iadr e_iarr e_len e_build e_mkf e_nc e_not e_neg e_cvt e_slc e_fld e_ext e_min e_eqs e_new e_box e_mkl e_mks
attribute [local simp] upd_apply ev_t ev_k ev_f binA_add binA_sub binA_mul binA_quo binA_rem binA_eql binA_neq binA_lss binA_leq binA_gtr binA_geq det mem frame0 keeps_nil iadrA_sl fadrA_ref fadrA_fp ldv_agg ldv_one cells_base hset_same hset_hset lenA_fs lenA_sl lenA_nils zeros_ints ints_length one_base one_nilp one_nils one_ref one_sl one_fp one_fs one_fn gl_one resA resOf bound natOf afill splice AV.cells cells_agg bindW_some condW_true condW_false condW_dec condW_ndec guardW_tup guardW_true guardW_true' guardW_false guardW_false' allocW_some pickA_true pickA_false
open Go.FM

theorem Rg.ord {D : Ds} (r : Rg D) : ordE D.p D.m = D.q := by
  have h1 := r.p2
  have h2 := r.m1
  have h3 := r.m8
  have h4 := r.p256
  have h5 := r.pm
  rw [Ds.qI]
  unfold ordE
  rw [if_pos]
  · simp
  · refine ⟨by omega, by omega, by omega, by omega, by simpa using h5⟩

theorem s_refIs {D : Ds} (r : Rg D) {mv : AV} (hone : one mv = true) (x : Int) : Pure prog n_ref04_Is [.agg [I D.p, I D.m, mv], I x] (B (decide (0 ≤ x ∧ x < D.q))) := by
  refine pure_of cf_ref04_Is rfl fun h => ?_
  simp [hone]
  intro b2 hb2
  obtain ⟨l0, l1, l2, l3⟩ := ld3_at (hset_same h b2 [I D.p, I D.m, mv])
  have hkg : Kp h (hset h b2 [I D.p, I D.m, mv]) := (Kp.refl h).new hb2 _
  generalize hset h b2 [I D.p, I D.m, mv] = g at *
  by_cases c : 0 ≤ x
  · simp [c, l3]
    refine (s_Order D.p D.m hone).call ?_
    rw [r.ord]
    simp
    exact ⟨_, hkg.sub, .id _, rfl⟩
  · simp [c]
    exact ⟨_, hkg.sub, .id _, rfl⟩

theorem s_refIn {D : Ds} (r : Rg D) {mv : AV} (hone : one mv = true) (x : Int) : Pure prog n_ref04_In [.agg [I D.p, I D.m, mv], I x] (I (D.inn x)) := by
  refine pure_of cf_ref04_In rfl fun h => ?_
  simp [hone]
  intro b2 hb2
  obtain ⟨l0, l1, l2, l3⟩ := ld3_at (hset_same h b2 [I D.p, I D.m, mv])
  have hkg : Kp h (hset h b2 [I D.p, I D.m, mv]) := (Kp.refl h).new hb2 _
  generalize hset h b2 [I D.p, I D.m, mv] = g at *
  simp [l3]
  refine (s_refIs r hone x).call ?_
  unfold Ds.inn
  by_cases c : 0 ≤ x ∧ x < D.q
  · rw [decide_eq_true c, if_pos c]
    simp
    exact ⟨_, hkg.sub, .id _, rfl⟩
  · rw [decide_eq_false c, if_neg c]
    simp
    exact ⟨_, hkg.sub, .id _, rfl⟩

theorem s_refDigits {D : Ds} (r : Rg D) {mv : AV} (hone : one mv = true) (x : Int) : Pure prog n_ref04_Digits [.agg [I D.p, I D.m, mv], I x] (.fs D.m (ints (digs D.p D.m (D.inn x)))) := by
  refine pure_of cf_ref04_Digits rfl fun h => ?_
  simp [hone]
  intro b2 hb2
  obtain ⟨l0, l1, l2, l3⟩ := ld3_at (hset_same h b2 [I D.p, I D.m, mv])
  have hkg : Kp h (hset h b2 [I D.p, I D.m, mv]) := (Kp.refl h).new hb2 _
  generalize hset h b2 [I D.p, I D.m, mv] = g at *
  have h1 := r.p2
  have h2 := r.m8
  have h3 := r.toOk.innR x
  have h4 := r.q256
  unfold Ds.R at h3
  simp [l0, l1, l3]
  refine (s_refIn r hone x).call ?_
  refine (s_digits (x := D.inn x) (p := D.p) (m := D.m) ⟨by omega, by omega⟩ (by omega) (by omega)).call ?_
  exact ⟨_, hkg.sub, .id _, rfl⟩

theorem s_Value {v mv : AV} {m : Int} {l : List Int} (hv : IL v l) (hone : one mv = true) {p : Int} (hp : 2 ≤ p) (hp2 : p ≤ 256) (h : Dg p l) (hl : p ^ l.length ≤ 256) (hll : l.length ≤ 1000) : Pure prog n_ref04_Value [.agg [I p, I m, mv], v] (I (val p l)) := by
  refine pure_of cf_ref04_Value rfl fun h' => ?_
  have u0 : IntKind.i64.wrap ((l.length : Int) - 1) = l.length - 1 := w64 _ (by omega)
  simp [hone]
  intro b2 hb2
  obtain ⟨l0, l1, l2, l3⟩ := ld3_at (hset_same h' b2 [I p, I m, mv])
  have hkg : Kp h' (hset h' b2 [I p, I m, mv]) := (Kp.refl h').new hb2 _
  generalize hset h' b2 [I p, I m, mv] = g at *
  simp [hv.len, u0]
  refine awp_for l.length (fun k fr' h2 => h2 = g ∧ (∃ i : Int, i + k = (l.length : Int) - 1 ∧ fr' 6 = I i) ∧ fr' 5 = I (val p (l.drop (l.length - k)))) ⟨rfl, ⟨_, by simp; rfl, by simp⟩, by simp [val]⟩ ?_
  intro k fr' h2 hkn hk ⟨hh, ⟨i, hi, h6⟩, h5⟩
  subst hh
  have k1 := hk 1 (by decide)
  have k2 := hk 2 (by decide)
  simp at k1 k2
  clear hk
  by_cases hlt : k < l.length
  · have hj : l.length - 1 - k < l.length := by omega
    have c : 0 ≤ i := by omega
    have e0 : i.toNat = l.length - 1 - k := by omega
    have hia := hv.iadr (i := i) ⟨by omega, by omega⟩
    rw [e0] at hia
    have hld := ld_ints (h := h2) hj
    have hg := Dg_getD h hj
    have hvd := val_drop (p := p) hj
    have hv1 := val_le hp h hl (l.length - 1 - k + 1)
    have hv2 := val_le hp h hl (l.length - 1 - k)
    rw [show l.length - k = l.length - 1 - k + 1 by omega] at h5
    rw [show l.length - (k + 1) = l.length - 1 - k by omega, hvd]
    rw [hvd] at hv2
    generalize val p (l.drop (l.length - 1 - k + 1)) = y at *
    generalize l.getD (l.length - 1 - k) 0 = z at *
    have hm1 : 0 ≤ p * y := Int.mul_nonneg (by omega) hv1.1
    have hcm : y * p = p * y := Int.mul_comm _ _
    have u1 : IntKind.i64.wrap (y * p) = y * p := w64 _ (by omega)
    have u2 : IntKind.i64.wrap (y * p + z) = z + p * y := by rw [w64 _ (by omega)]; omega
    have u3 : IntKind.i64.wrap (i - 1) = i - 1 := w64 _ (by omega)
    simp [h6, h5, k1, k2, l0, c, hia, hld, u1, u2, u3, hlt]
    omega
  · have : k = l.length := by omega
    subst this
    have c : ¬ 0 ≤ i := by omega
    simp [h6, h5, c]
    exact ⟨_, hkg.sub, .id _, rfl⟩

theorem num_val {p : Nat} (hp : 2 ≤ p) {m : Nat} {l : List Int} (h : Dg p l) (hl : l.length = m) : val p l = num p m (vl l) := by
  unfold num
  rw [red_vl (by omega) h hl]

theorem mul_dvd {p c d : Int} : p ∣ (c + d) % p - (c + d) := emod_dvd _ _
theorem mul_dvd2 {p c ci f : Int} : p ∣ (c + (p - ci) * f) % p - (c + -(ci * f)) := by
  have h1 := emod_dvd (c + (p - ci) * f) p
  have h2 : p ∣ p * f := Int.dvd_mul_right _ _
  have := Int.dvd_add h1 h2
  generalize (c + (p - ci) * f) % p = z at *
  rwa [show z - (c + (p - ci) * f) + p * f = z - (c + -(ci * f)) by grind] at this

set_option maxHeartbeats 4000000 in
theorem s_refMul {D : Ds} (r : Rg D) {mv : AV} (hmv : IL mv D.mo) (x y : Int) : Pure prog n_ref04_Mul [.agg [I D.p, I D.m, mv], I x, I y] (I (D.mul x y)) := by
  refine pure_of cf_ref04_Mul rfl fun h => ?_
  have hone := hmv.one
  have hp2 := r.p2
  have hm1 := r.m1
  have hm8 := r.m8
  have hp256 := r.p256
  simp [hone]
  intro b3 hb3
  obtain ⟨l0, l1, l2, l3⟩ := ld3_at (hset_same h b3 [I D.p, I D.m, mv])
  have hkg : Kp h (hset h b3 [I D.p, I D.m, mv]) := (Kp.refl h).new hb3 _
  have hg3 : (hset h b3 [I D.p, I D.m, mv]) b3 = some [I D.p, I D.m, mv] := hset_same ..
  generalize hset h b3 [I D.p, I D.m, mv] = g at *
  simp [l3]
  refine (s_refDigits r hone x).call ?_
  simp [l3]
  refine (s_refDigits r hone y).call ?_
  have u1 : IntKind.i64.wrap (2 * (D.m : Int)) = 2 * D.m := w64 _ (by omega)
  have u2 : IntKind.i64.wrap (2 * (D.m : Int) - 1) = ((2 * D.m - 1 : Nat) : Int) := by rw [w64 _ (by omega)]; omega
  have u3 : ((2 * D.m - 1 : Nat) : Int) ≤ 4294967296 := by omega
  simp [l1, u1, u2, u3]
  intro b9 hb9
  have hmulV : D.mul x y = D.nu (FM.mul D.m D.moV (vl (digs D.p D.m (D.inn x))) (vl (digs D.p D.m (D.inn y)))) := rfl
  rw [hmulV]
  clear hmulV
  have hla := digs_length (D.p : Int) D.m (D.inn x)
  have hlb := digs_length (D.p : Int) D.m (D.inn y)
  have hda := digs_Dg r.p0 D.m (D.inn x)
  have hdb := digs_Dg r.p0 D.m (D.inn y)
  have hIa := IL.fs (digs (D.p : Int) D.m (D.inn x))
  have hIb := IL.fs (digs (D.p : Int) D.m (D.inn y))
  rw [hla] at hIa
  rw [hlb] at hIb
  generalize digs (D.p : Int) D.m (D.inn x) = xa at *
  generalize digs (D.p : Int) D.m (D.inn y) = xb at *
  have hQ0 : Q D.m D.p (evk D.m D.moV (2 * D.m - 1) (vl (List.replicate (2 * D.m - 1) 0))) (fun t => S 0 (fun i => S D.m (fun j => vl xa i * vl xb j * Tn D.m D.moV (i + j) (e 0) t))) := Q.of fun t _ => by
    simp only [evk, vl_zeros, Int.zero_mul, S_zero]; rfl
  refine awp_for D.m (fun i fr' h' => Kp g h' ∧ (∃ c, h' b9 = some (ints c) ∧ c.length = 2 * D.m - 1 ∧ Dg D.p c ∧ Q D.m D.p (evk D.m D.moV (2 * D.m - 1) (vl c)) (fun t => S i (fun i => S D.m (fun j => vl xa i * vl xb j * Tn D.m D.moV (i + j) (e 0) t)))) ∧ fr' 10 = I i)
    ⟨(Kp.refl g).new hb9 _, ⟨_, hset_same .., by simp, Dg_zeros r.p0 _, hQ0⟩, by simp⟩ ?_
  clear hQ0
  intro i fr' h' hin hk ⟨hkp, ⟨c, hc, hcl, hcd, hcq⟩, k10⟩
  have k3 := hk 3 (by decide)
  have k7 := hk 7 (by decide)
  have k8 := hk 8 (by decide)
  have k9 := hk 9 (by decide)
  simp at k3 k7 k8 k9
  clear hk
  obtain ⟨q0, q1, q2, q3⟩ := ld3_at (hkp b3 _ hg3)
  by_cases hi : i < D.m
  · simp [k3, k10, q1, hi]
    refine awp_for D.m (fun j fr2 h2 => Kp g h2 ∧ (∃ c, h2 b9 = some (ints c) ∧ c.length = 2 * D.m - 1 ∧ Dg D.p c ∧ Q D.m D.p (evk D.m D.moV (2 * D.m - 1) (vl c)) (fun t => S i (fun i => S D.m (fun j => vl xa i * vl xb j * Tn D.m D.moV (i + j) (e 0) t)) + S j (fun j => vl xa i * vl xb j * Tn D.m D.moV (i + j) (e 0) t))) ∧ fr2 11 = I j)
      ⟨hkp, ⟨c, hc, hcl, hcd, by simpa [S] using hcq⟩, by simp⟩ ?_
    clear hc hcl hcd hcq
    intro j fr2 h2 hjn hk2 ⟨hkp2, ⟨c, hc, hcl, hcd, hcq⟩, k11⟩
    have m3 := hk2 3 (by decide)
    have m7 := hk2 7 (by decide)
    have m8 := hk2 8 (by decide)
    have m9 := hk2 9 (by decide)
    have m10 := hk2 10 (by decide)
    simp [k3, k7, k8, k9, k10] at m3 m7 m8 m9 m10
    clear hk2
    obtain ⟨p0, p1, p2, p3⟩ := ld3_at (hkp2 b3 _ hg3)
    by_cases hj : j < D.m
    · have u4 : IntKind.i64.wrap ((i : Int) + j) = ((i + j : Nat) : Int) := by rw [w64 _ (by omega)]; omega
      have hij : i + j < c.length := by omega
      have hldc := ld_ints_at hc hij
      have hja := hIa.iadr (i := i) ⟨by omega, by omega⟩
      have hjb := hIb.iadr (i := j) ⟨by omega, by omega⟩
      simp at hja hjb
      have hlda := fun h' => ld_ints (h := h') (l := xa) (k := i) (by omega)
      have hldb := fun h' => ld_ints (h := h') (l := xb) (k := j) (by omega)
      have r1 := Dg_getD hcd hij
      have r2 := Dg_getD hda (j := i) (by omega)
      have r3 := Dg_getD hdb (j := j) (by omega)
      have hevk := evk_set (m := D.m) (mo := D.moV) (k := 2 * D.m - 1) (p := D.p) (c := c) (l := i + j) (v := (c.getD (i + j) 0 + xa.getD i 0 * xb.getD j 0) % D.p) (d := xa.getD i 0 * xb.getD j 0) (by omega) hij mul_dvd
      have hst := fun Q => st_ints_at (v := (c.getD (i + j) 0 + xa.getD i 0 * xb.getD j 0) % D.p) (Q := Q) hc hij
      have e1 : vl xa i = xa.getD i 0 := rfl
      have e2 : vl xb j = xb.getD j 0 := rfl
      have hstep : Q D.m D.p (evk D.m D.moV (2 * D.m - 1) (vl (c.set (i + j) ((c.getD (i + j) 0 + xa.getD i 0 * xb.getD j 0) % D.p)))) (fun t => S i (fun i => S D.m (fun j => vl xa i * vl xb j * Tn D.m D.moV (i + j) (e 0) t)) + S (j + 1) (fun j => vl xa i * vl xb j * Tn D.m D.moV (i + j) (e 0) t)) := by
        refine hevk.trans ((hcq.add (Q.refl _)).trans (Q.of fun t _ => ?_))
        simp only [S, e1, e2]
        omega
      have hrm : 0 ≤ (c.getD (i + j) 0 + xa.getD i 0 * xb.getD j 0) % D.p ∧ (c.getD (i + j) 0 + xa.getD i 0 * xb.getD j 0) % D.p < D.p := ⟨Int.emod_nonneg _ (by omega), Int.emod_lt_of_pos _ (by omega)⟩
      clear hevk e1 e2
      generalize xa.getD i 0 = ai at *
      generalize xb.getD j 0 = bj at *
      generalize c.getD (i + j) 0 = cij at *
      have b1 : 0 ≤ ai * bj := Int.mul_nonneg r2.1 r3.1
      have b2 : ai * bj ≤ 256 * 256 := Int.mul_le_mul (by omega) (by omega) r3.1 (by omega)
      have u5 : IntKind.i64.wrap (ai * bj) = ai * bj := w64 _ (by omega)
      have u6 : IntKind.i64.wrap (cij + ai * bj) = cij + ai * bj := w64 _ (by omega)
      have u7 : (cij + ai * bj).tmod D.p = (cij + ai * bj) % D.p := Int.tmod_eq_emod_of_nonneg (by omega)
      have u8 : IntKind.i64.wrap ((j : Int) + 1) = j + 1 := w64 _ (by omega)
      have hp0 : (D.p : Int) ≠ 0 := by omega
      have hp0' : D.p ≠ 0 := by omega
      generalize hnv : (cij + ai * bj) % (D.p : Int) = nv at *
      have c1 : (0 : Int) ≤ ((i + j : Nat) : Int) := by omega
      have c2 : ((i + j : Nat) : Int) < ((2 * D.m - 1 : Nat) : Int) := by omega
      have c3 : i + j < 2 * D.m - 1 := by omega
      have hres : Kp g (hset h2 b9 (ints (c.set (i + j) nv))) ∧ ∃ c', (hset h2 b9 (ints (c.set (i + j) nv))) b9 = some (ints c') ∧ c'.length = 2 * D.m - 1 ∧ Dg D.p c' ∧ Q D.m D.p (evk D.m D.moV (2 * D.m - 1) (vl c')) (fun t => S i (fun i => S D.m (fun j => vl xa i * vl xb j * Tn D.m D.moV (i + j) (e 0) t)) + S (j + 1) (fun j => vl xa i * vl xb j * Tn D.m D.moV (i + j) (e 0) t)) :=
        ⟨hkp2.set hb9 _, _, hset_same .., by simp [hcl], Dg_set hcd hrm _, hstep⟩
      clear hstep hcq
      generalize i + j = ij at u4 hldc hst c1 c2 c3 hres ⊢
      simp [m3, m7, m8, m9, m10, k11, p0, p1, hj, u4, hldc, hja, hjb, hlda, hldb, u5, u6, u7, u8, hp0, hp0', hnv, c1, c2, c3, hst]
      simpa using hres
    · have : j = D.m := by omega
      subst this
      have u8 : IntKind.i64.wrap ((i : Int) + 1) = i + 1 := w64 _ (by omega)
      simp [m3, m10, k11, p1, u8]
      exact ⟨hkp2, c, hc, hcl, hcd, hcq⟩
  · have hie : i = D.m := by omega
    have hnD : ¬ (i : Int) < D.m := by omega
    have hQt : Q D.m D.p (evk D.m D.moV (2 * D.m - 1) (vl c)) (FM.mul D.m D.moV (vl xa) (vl xb)) := by
      rw [hie] at hcq
      exact hcq.trans ((FM.mul_e r.m1 (vl xb) (vl xa)).symm.trans (FM.mul_comm r.m1 _ _))
    clear hcq
    generalize FM.mul D.m D.moV (vl xa) (vl xb) = tgt at *
    have u4 : IntKind.i64.wrap (2 * (D.m : Int) - 2) = ((2 * D.m - 2 : Nat) : Int) := by rw [w64 _ (by omega)]; omega
    have hlen := r.len
    simp [k3, k10, q1, hnD, u1, u4]
    refine awp_for (D.m - 1) (fun k fr2 h2 => Kp g h2 ∧ (∃ c, h2 b9 = some (ints c) ∧ c.length = 2 * D.m - 1 ∧ Dg D.p c ∧ Q D.m D.p (evk D.m D.moV (2 * D.m - 1 - k) (vl c)) tgt) ∧ (∃ i : Int, i + k = ((2 * D.m - 2 : Nat) : Int) ∧ fr2 12 = I i))
      ⟨hkp, ⟨c, hc, hcl, hcd, hQt⟩, ⟨_, by simp; rfl, by simp⟩⟩ ?_
    clear hQt hc hcl hcd k10 hin hie hnD
    intro k fr2 h2 hkn hk2 ⟨hkp2, ⟨c, hc, hcl, hcd, hcq⟩, ⟨i2, hi2, k12⟩⟩
    have m3 := hk2 3 (by decide)
    have m9 := hk2 9 (by decide)
    simp [k3, k9] at m3 m9
    clear hk2
    obtain ⟨p0, p1, p2, p3⟩ := ld3_at (hkp2 b3 _ hg3)
    by_cases hk : k < D.m - 1
    · obtain ⟨ii, rfl⟩ : ∃ n : Nat, i2 = n := ⟨i2.toNat, by omega⟩
      have hii : ii = 2 * D.m - 2 - k := by omega
      have hm1' : D.m ≠ 1 := by omega
      rw [if_neg hm1'] at hlen
      have c1 : (D.m : Int) ≤ ii := by omega
      have c1' : D.m ≤ ii := by omega
      have hciR := Dg_getD hcd (j := ii) (by omega)
      generalize hci : c.getD ii 0 = ci at *
      have hevk0 : ∀ t, evk D.m D.moV (2 * D.m - 1 - k) (vl c) t = evk D.m D.moV ii (vl c) t + ci * Tn D.m D.moV ii (e 0) t := fun t => by
        rw [show 2 * D.m - 1 - k = ii + 1 by omega]
        simp only [evk, S]
        rw [show vl c ii = ci from hci]
      simp [m3, k12, p1, c1, c1']
      refine awp_for D.m (fun j fr3 h3 => Kp g h3 ∧ (∃ c', h3 b9 = some (ints c') ∧ c'.length = 2 * D.m - 1 ∧ Dg D.p c' ∧ c'.getD ii 0 = ci ∧ Q D.m D.p (evk D.m D.moV ii (vl c')) (fun t => evk D.m D.moV ii (vl c) t + S j (fun j => -(ci * D.moV j) * Tn D.m D.moV (ii - D.m + j) (e 0) t))) ∧ fr3 13 = I j)
        ⟨hkp2, ⟨c, hc, hcl, hcd, hci, by simp only [S, Int.add_zero]; exact Q.refl _⟩, by simp⟩ ?_
      intro j fr3 h3 hjn hk3 ⟨hkp3, ⟨c', hc', hcl', hcd', hci', hcq'⟩, k13⟩
      have n3 := hk3 3 (by decide)
      have n9 := hk3 9 (by decide)
      have n12 := hk3 12 (by decide)
      simp [m3, m9, k12] at n3 n9 n12
      clear hk3
      obtain ⟨s0, s1, s2, s3⟩ := ld3_at (hkp3 b3 _ hg3)
      by_cases hj : j < D.m
      · have v1 : IntKind.i64.wrap ((ii : Int) - D.m) = ii - D.m := w64 _ (by omega)
        have v2 : IntKind.i64.wrap ((ii : Int) - D.m + j) = ((ii - D.m + j : Nat) : Int) := by rw [w64 _ (by omega)]; omega
        have hij : ii - D.m + j < c'.length := by omega
        have hldc := ld_ints_at hc' hij
        have hldi := ld_ints_at hc' (k := ii) (by omega)
        have hjm := hmv.iadr (i := j) ⟨by omega, by omega⟩
        simp at hjm
        have hldm := fun h' => ld_ints (h := h') (l := D.mo) (k := j) (by omega)
        have r1 := Dg_getD hcd' hij
        have r2 := Dg_getD r.dg (j := j) (by omega)
        have e1 : D.moV j = D.mo.getD j 0 := rfl
        have hevk := evk_set (m := D.m) (mo := D.moV) (k := ii) (p := D.p) (c := c') (l := ii - D.m + j) (v := (c'.getD (ii - D.m + j) 0 + (D.p - ci) * D.mo.getD j 0) % D.p) (d := -(ci * D.mo.getD j 0)) (by omega) hij mul_dvd2
        have hstep : Q D.m D.p (evk D.m D.moV ii (vl (c'.set (ii - D.m + j) ((c'.getD (ii - D.m + j) 0 + (D.p - ci) * D.mo.getD j 0) % D.p)))) (fun t => evk D.m D.moV ii (vl c) t + S (j + 1) (fun j => -(ci * D.moV j) * Tn D.m D.moV (ii - D.m + j) (e 0) t)) := by
          refine hevk.trans ((hcq'.add (Q.refl _)).trans (Q.of fun t _ => ?_))
          simp only [S, e1]
          omega
        have hrm : 0 ≤ (c'.getD (ii - D.m + j) 0 + (D.p - ci) * D.mo.getD j 0) % D.p ∧ (c'.getD (ii - D.m + j) 0 + (D.p - ci) * D.mo.getD j 0) % D.p < D.p := ⟨Int.emod_nonneg _ (by omega), Int.emod_lt_of_pos _ (by omega)⟩
        have hst := fun Q => st_ints_at (v := (c'.getD (ii - D.m + j) 0 + (D.p - ci) * D.mo.getD j 0) % D.p) (Q := Q) hc' hij
        rw [hci'] at hldi
        clear hevk e1
        generalize D.mo.getD j 0 = fj at *
        generalize c'.getD (ii - D.m + j) 0 = cij at *
        have b1 : 0 ≤ ((D.p : Int) - ci) * fj := Int.mul_nonneg (by omega) r2.1
        have b2 : ((D.p : Int) - ci) * fj ≤ 256 * 256 := Int.mul_le_mul (by omega) (by omega) r2.1 (by omega)
        have v3 : IntKind.i64.wrap ((D.p : Int) - ci) = D.p - ci := w64 _ (by omega)
        have v4 : IntKind.i64.wrap (((D.p : Int) - ci) * fj) = ((D.p : Int) - ci) * fj := w64 _ (by omega)
        have v5 : IntKind.i64.wrap (cij + ((D.p : Int) - ci) * fj) = cij + ((D.p : Int) - ci) * fj := w64 _ (by omega)
        have v6 : (cij + ((D.p : Int) - ci) * fj).tmod D.p = (cij + ((D.p : Int) - ci) * fj) % D.p := Int.tmod_eq_emod_of_nonneg (by omega)
        have v7 : IntKind.i64.wrap ((j : Int) + 1) = j + 1 := w64 _ (by omega)
        have hp0 : (D.p : Int) ≠ 0 := by omega
        have hp0' : D.p ≠ 0 := by omega
        generalize hnv : (cij + ((D.p : Int) - ci) * fj) % (D.p : Int) = nv at *
        have c2 : (0 : Int) ≤ ((ii - D.m + j : Nat) : Int) := by omega
        have c3 : ((ii - D.m + j : Nat) : Int) < ((2 * D.m - 1 : Nat) : Int) := by omega
        have c4 : ii - D.m + j < 2 * D.m - 1 := by omega
        have c5 : (ii : Int) < ((2 * D.m - 1 : Nat) : Int) := by omega
        have c6 : ii < 2 * D.m - 1 := by omega
        have hres : Kp g (hset h3 b9 (ints (c'.set (ii - D.m + j) nv))) ∧ ∃ c2, (hset h3 b9 (ints (c'.set (ii - D.m + j) nv))) b9 = some (ints c2) ∧ c2.length = 2 * D.m - 1 ∧ Dg D.p c2 ∧ c2.getD ii 0 = ci ∧ Q D.m D.p (evk D.m D.moV ii (vl c2)) (fun t => evk D.m D.moV ii (vl c) t + S (j + 1) (fun j => -(ci * D.moV j) * Tn D.m D.moV (ii - D.m + j) (e 0) t)) :=
          ⟨hkp3.set hb9 _, _, hset_same .., by simp [hcl'], Dg_set hcd' hrm _, by
            have := vl_set c' nv ii hij
            rw [if_neg (by omega)] at this
            exact this.trans hci', hstep⟩
        clear hstep hcq hcq'
        generalize ii - D.m + j = ij at v2 hldc hst c2 c3 c4 hres ⊢
        simp [n3, n9, n12, k13, s0, s1, s2, hj, v1, v2, v3, v4, v5, v6, v7, hldc, hldi, hjm, hldm, hp0, hp0', c2, c3, c4, c5, c6, hst]
        simpa using hres
      · have : j = D.m := by omega
        subst this
        have v7 : IntKind.i64.wrap ((ii : Int) - 1) = ii - 1 := w64 _ (by omega)
        have hfin : Q D.m D.p (evk D.m D.moV (2 * D.m - 1 - (k + 1)) (vl c')) tgt := by
          rw [show 2 * D.m - 1 - (k + 1) = ii by omega]
          refine hcq'.trans (Q.trans ?_ hcq)
          have htop := (Tn_top (m := D.m) (mo := D.moV) (p := D.p) r.m1 c1').smul ci
          refine ((Q.refl (evk D.m D.moV ii (vl c))).add ?_).trans (Q.of fun t _ => (hevk0 t).symm)
          refine Q.trans (Q.of fun t _ => ?_) htop.symm
          rw [← S_mul]
          refine S_congr fun q _ => ?_
          grind
        simp [n3, n12, k13, s1, v7]
        exact ⟨by omega, hkp3, ⟨c', hc', hcl', hcd', hfin⟩, by omega⟩
    · have : k = D.m - 1 := by omega
      subst this
      have cc : ¬ (D.m : Int) ≤ i2 := by omega
      rw [show 2 * D.m - 1 - (D.m - 1) = D.m by omega] at hcq
      simp [m3, k12, p1, cc]
      refine Fz_one (g := g) (s := 9) (n := 2 * D.m - 1) (sz := 1) (by simp [m9]) hc hb9 hkp2 (by rw [ints_length]; omega) ?_
      have hIc := IL.fs c
      rw [hcl] at hIc
      have hsl := hIc.slcN (lo := 0) (hi := D.m) (by omega) (by omega)
      have hIv := hIc.slv (lo := 0) (hi := D.m) (by omega) (by omega)
      rw [List.drop_zero, Nat.sub_zero] at hIv
      have hcl2 : (c.take D.m).length = D.m := by simp; omega
      have hcd2 : Dg D.p (c.take D.m) := fun z hz => hcd z (List.mem_of_mem_take hz)
      have hval : val D.p (c.take D.m) = D.nu tgt := by
        rw [num_val (by omega) hcd2 hcl2]
        refine num_congr r.p0 (Q.trans (Q.of fun t ht => ?_) ((evk_low (mo := D.moV) r.m1 (vl c)).symm.trans hcq))
        simp only [vl, List.getD, List.getElem?_take]
        rw [if_pos ht]
      simp [m3, l1, l3, hsl]
      refine (s_Value hIv hone (m := D.m) (p := D.p) (by omega) (by omega) hcd2 (by rw [hcl2]; exact r.pm) (by omega)).call ?_
      rw [hval]
      exact ⟨_, hkg.sub, .id _, rfl⟩
end Go.AM.Ytmihmgnjnedfcaa

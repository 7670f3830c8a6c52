/- Contracts of functions: the program's multiplication. -/
import Derived.Test.YtmihmgnjnedfcaaF2
set_option maxRecDepth 100000
set_option linter.unusedSimpArgs false
set_option linter.unusedVariables false
namespace Go.AM.Ytmihmgnjnedfcaa
open Go Go.AM
attribute [local simp ↓] awp_seq awp_reg awp_skip awp_cond awp_block awp_exit awp_ret awp_fz thenW_normal thenW_exit thenW_ret inBlk_normal inBlk_exit inBlk_ret aops_cons aops_nil e_mv e_guard e_pick e_ld e_app e_cpy e_st e_call callW_f updO_some updO_none e_bin e_isnil e_fadr e_iadr e_iarr e_len e_build e_mkf e_nc e_not e_neg e_cvt e_slc e_fld e_ext e_min e_eqs e_new e_box e_mkl e_mks
attribute [local simp] upd_apply ev_t ev_k ev_f binA_add binA_sub binA_mul binA_quo binA_rem binA_eql binA_neq binA_lss binA_leq binA_gtr binA_geq det mem frame0 keeps_nil iadrA_sl fadrA_ref fadrA_fp ldv_agg ldv_one cells_base hset_same hset_hset lenA_fs lenA_sl lenA_nils zeros_ints ints_length one_base one_nilp one_nils one_ref one_sl one_fp one_fs one_fn gl_one resA resOf bound natOf afill splice AV.cells cells_agg bindW_some condW_true condW_false condW_dec condW_ndec guardW_tup guardW_true guardW_true' guardW_false guardW_false' allocW_some pickA_true pickA_false
open Go.FM

theorem le8 {p m : Nat} (hp : 2 ≤ p) (h : p ^ m ≤ 256) : m ≤ 8 := by
  apply Classical.byContradiction
  intro hc
  have h1 : 2 ^ m ≤ p ^ m := Nat.pow_le_pow_left hp _
  have h2 : 2 ^ 9 ≤ 2 ^ m := Nat.pow_le_pow_right (by omega) (by omega)
  omega

/-- What is asked of a ring: numbers that fit. -/
structure Rg (D : Ds) : Prop extends D.Okm where
  q256 : D.q ≤ 256
theorem Rg.m8 {D : Ds} (r : Rg D) : D.m ≤ 8 := le8 r.p2 r.q256
theorem Rg.p256 {D : Ds} (r : Rg D) : D.p ≤ 256 := by
  have h1 := r.m1
  have h2 : D.p ^ 1 ≤ D.p ^ D.m := Nat.pow_le_pow_right (by have := r.p2; omega) h1
  have h3 := r.q256
  unfold Ds.q at h3
  simp at h2; omega
theorem Rg.pm {D : Ds} (r : Rg D) : (D.p : Int) ^ D.m ≤ 256 := by
  have := r.q256
  have h := Ds.qI D
  omega

theorem tk_get {a b : List Int} {j i : Nat} (hj : j ≤ a.length) : (a.take j ++ b.drop j).getD i 0 = if i < j then a.getD i 0 else b.getD i 0 := by
  simp only [List.getD]
  by_cases h : i < j
  · rw [if_pos h, List.getElem?_append_left (by simp; omega), List.getElem?_take, if_pos h]
  · rw [if_neg h, List.getElem?_append_right (by simp; omega), List.getElem?_drop]
    simp only [List.length_take, Nat.min_eq_left hj]
    rw [show j + (i - j) = i by omega]
theorem tk_set {a b : List Int} {j : Nat} (hj : j < a.length) (hb : b.length = a.length) : (a.take j ++ b.drop j).set j (a.getD j 0) = a.take (j + 1) ++ b.drop (j + 1) := by
  rw [List.set_append_right _ _ (by simp; omega), List.drop_eq_getElem_cons (by omega : j < b.length)]
  simp only [List.length_take, show min j a.length = j by omega, Nat.sub_self, List.set_cons_zero]
  rw [List.take_succ_eq_append_getElem hj, List.append_assoc]
  simp [List.getD, hj]
theorem tk_len {a b : List Int} {j : Nat} (hj : j ≤ a.length) (hb : b.length = a.length) : (a.take j ++ b.drop j).length = a.length := by simp; omega

theorem sh_get {os : List Int} {m j : Nat} (hm : os.length = m) (hj : j < m) : ((os.take 1 ++ os.take (m - 1)).set 0 0).getD j 0 = if j = 0 then 0 else os.getD (j - 1) 0 := by
  match os, hm with
  | [], hm => simp at hm; omega
  | o :: os, hm =>
    simp only [List.take_succ_cons, List.take_zero, List.cons_append, List.nil_append, List.set_cons_zero]
    cases j with
    | zero => simp
    | succ j =>
      simp only [List.getD_cons_succ, Nat.succ_ne_zero, if_false, Nat.add_sub_cancel]
      simp only [List.getD, List.getElem?_take]
      rw [if_pos (by omega)]

set_option maxHeartbeats 4000000 in
theorem s_multiply {D : Ds} (r : Rg D) {mv : AV} (hmv : IL mv D.mo) {x y : Int} (hx : D.R x) (hy : D.R y) :
    Pure prog n_field_multiply [.agg [I D.p, I D.m, mv], I x, I y] (I (D.mul x y)) := by
  refine pure_of cf_field_multiply rfl fun h => ?_
  have hp2 := r.p2
  have hm1 := r.m1
  have hm8 := r.m8
  have hp256 := r.p256
  have hq := r.q256
  have hone := hmv.one
  have hx2 := hx.2
  have hy2 := hy.2
  simp [hone]
  intro b3 hb3
  obtain ⟨l0, l1, l2, l3⟩ := ld3_at (hset_same h b3 [I D.p, I D.m, mv])
  have hkg : Kp h (hset h b3 [I D.p, I D.m, mv]) := (Kp.refl h).new hb3 _
  have hg3 : (hset h b3 [I D.p, I D.m, mv]) b3 = some [I D.p, I D.m, mv] := hset_same ..
  generalize hset h b3 [I D.p, I D.m, mv] = g at *
  simp [l0, l1]
  refine (w_digitsOf (p := D.p) (m := D.m) ⟨hx.1, by omega⟩ (by omega) (by omega)).call ?_
  refine (w_digitsOf (p := D.p) (m := D.m) ⟨hy.1, by omega⟩ (by omega) (by omega)).call ?_
  have e0 : (D.m : Int) ≤ 4294967296 := by omega
  have um : IntKind.i64.wrap ((D.m : Int) - 1) = D.m - 1 := w64 _ (by omega)
  simp [l1, e0, um]
  intro b9 hb9
  have ne : b3 ≠ b9 := fun he => by rw [← he, hg3] at hb9; cases hb9
  simp [ld_other ne, l1, um]
  have hl9 := digs_length (D.p : Int) D.m
  have hda := digs_Dg r.p0 D.m x
  have hdb := digs_Dg r.p0 D.m y
  have hmul := r.toOkm.mulL_mul hx hy
  unfold Ds.mulL at hmul
  have hIa := IL.fs (digs (D.p : Int) D.m x)
  have hIb := IL.fs (digs (D.p : Int) D.m y)
  rw [hl9] at hIa hIb
  have hla := hl9 x
  have hlb := hl9 y
  generalize digs (D.p : Int) D.m x = xa at *
  generalize digs (D.p : Int) D.m y = xb at *
  have hml := r.toOkm.moL_len
  have hml2 : ∀ j, D.moL.getD j 0 = if D.m = 1 then 0 else D.mo.getD j 0 := by
    intro j
    unfold Ds.moL
    split
    · cases j <;> simp
    · rfl
  have hdm : Dg D.p D.moL := by
    obtain ⟨fs, h3, h4⟩ := r.toOkm.moN
    rw [← h4]; exact h3.up
  have hlmo := r.len
  refine awp_for D.m (fun k fr' h' => Kp g h' ∧ h' b9 = some (ints (horner D.p D.moL xa (List.replicate D.m 0) (xb.drop (D.m - k)))) ∧ (∃ i : Int, i + k = (D.m : Int) - 1 ∧ fr' 10 = I i)) ⟨(Kp.refl g).new hb9 _, by rw [hset_same, Nat.sub_zero, List.drop_eq_nil_of_le (by omega)]; rfl, ⟨_, by simp; rfl, by simp⟩⟩ ?_
  intro k fr' h' hkn hk ⟨hkp, hb, ⟨i, hi, h10⟩⟩
  have k3 := hk 3 (by decide)
  have k7 := hk 7 (by decide)
  have k8 := hk 8 (by decide)
  have k9 := hk 9 (by decide)
  simp at k3 k7 k8 k9
  clear hk
  obtain ⟨l0', l1', l2', _⟩ := ld3_at (hkp b3 _ hg3)
  by_cases hlt : k < D.m
  · have hj : D.m - 1 - k < xb.length := by omega
    have c : 0 ≤ i := by omega
    have ei : i.toNat = D.m - 1 - k := by omega
    have hol := horner_length (p := D.p) (z := List.replicate D.m 0) (m := D.m) (by simp) hml hla (xb.drop (D.m - k))
    have hod : Dg D.p (horner D.p D.moL xa (List.replicate D.m 0) (xb.drop (D.m - k))) := horner_Dg r.p0 (Dg_zeros r.p0 D.m) _
    have hnext : horner D.p D.moL xa (List.replicate D.m 0) (xb.drop (D.m - (k + 1))) = hstep D.p D.moL xa (xb.getD (D.m - 1 - k) 0) (horner D.p D.moL xa (List.replicate D.m 0) (xb.drop (D.m - k))) := by
      rw [show D.m - (k + 1) = D.m - 1 - k by omega, List.drop_eq_getElem_cons hj, show D.m - 1 - k + 1 = D.m - k by omega]
      simp [horner, List.getD, hj]
    rw [hnext]
    clear hnext
    have hcb := Dg_getD hdb hj
    have hib := hIb.iadr (i := i) ⟨c, by omega⟩
    rw [ei] at hib
    have hldb := fun h' => ld_ints (h := h') hj
    generalize xb.getD (D.m - 1 - k) 0 = cb at *
    generalize horner D.p D.moL xa (List.replicate D.m 0) (xb.drop (D.m - k)) = os at *
    have hN1 : (hstep D.p D.moL xa cb os).length = os.length := hstep_length (by omega) (by omega)
    have hN2 : ∀ j, j < os.length → vl (hstep D.p D.moL xa cb os) j = ((if j = 0 then 0 else vl os (j - 1)) + (D.p - vl os (os.length - 1)) * vl D.moL j + cb * vl xa j) % D.p := fun j hj => hstep_get (by omega) (by omega) hj
    generalize hstep D.p D.moL xa cb os = N at *
    have htop := ld_ints_at hb (k := D.m - 1) (by omega)
    have htr := Dg_getD hod (j := D.m - 1) (by omega)
    simp only [vl, hol] at hN2
    generalize os.getD (D.m - 1) 0 = top at *
    have hsl := hN1.trans hol
    have et : ((D.m : Int) - 1).toNat = D.m - 1 := by omega
    have c1 : (1 : Int) ≤ D.m := by omega
    have hcp := fun K => cpy_up (K := K) hb hol (by omega)
    have hb2 : (hset h' b9 (ints (os.take 1 ++ os.take (D.m - 1)))) b9 = some (ints (os.take 1 ++ os.take (D.m - 1))) := hset_same ..
    have hst0 := fun Q => st_ints_at (v := 0) (Q := Q) hb2 (k := 0) (by simp; omega)
    have hsg := fun j hj => sh_get (os := os) (m := D.m) (j := j) hol hj
    have hshl : ((os.take 1 ++ os.take (D.m - 1)).set 0 0).length = D.m := by simp; omega
    have c2 : ((D.m : Int) - 1).toNat ≤ D.m := by omega
    have c3 : (D.m : Int) - 1 < D.m := by omega
    have c4 : 1 ≤ D.m := hm1
    have c5 : 0 < D.m := hm1
    simp [h10, c, k9, k3, l1', um, et, htop, slcA, c1, c3, c4, c5, hcp, hst0]
    have hkp3 : Kp g (hset h' b9 (ints ((os.take 1 ++ os.take (D.m - 1)).set 0 0))) := hkp.set hb9 _
    generalize (os.take 1 ++ os.take (D.m - 1)).set 0 0 = sh at *
    clear hcp hb2 hst0 htop
    have hshr : ∀ j, j < D.m → 0 ≤ sh.getD j 0 ∧ sh.getD j 0 < D.p := fun j hj => by
      rw [hsg j hj]
      split
      · omega
      · exact Dg_getD hod (by omega)
    refine awp_for D.m (fun j fr' h2 => Kp g h2 ∧ h2 b9 = some (ints (N.take j ++ sh.drop j)) ∧ fr' 54 = I j) ⟨hkp3, by simp [hset_same], by simp⟩ ?_
    clear hkp3
    intro j fr2 h2 hjn hk2 ⟨hkp2, hb2, h54⟩
    have m3 := hk2 3 (by decide)
    have m7 := hk2 7 (by decide)
    have m8 := hk2 8 (by decide)
    have m9 := hk2 9 (by decide)
    have m10 := hk2 10 (by decide)
    have m11 := hk2 11 (by decide)
    have m53 := hk2 53 (by decide)
    simp [k3, k7, k8, k9, h10] at m3 m7 m8 m9 m10 m11 m53
    clear hk2
    obtain ⟨q0, q1, q2, _⟩ := ld3_at (hkp2 b3 _ hg3)
    by_cases hj2 : j < D.m
    · have hja := hIa.iadr (i := j) ⟨by omega, by omega⟩
      simp at hja
      have hlda := fun h' => ld_ints (h := h') (l := xa) (k := j) (by omega)
      have hldo := ld_ints_at hb2 (k := j) (by rw [tk_len (by omega) (by omega)]; omega)
      rw [tk_get (by omega), if_neg (by omega)] at hldo
      have hst := fun Q => st_ints_at (v := N.getD j 0) (Q := Q) hb2 (k := j) (by rw [tk_len (by omega) (by omega)]; omega)
      rw [tk_set (by omega) (by omega)] at hst
      have hNj := hN2 j hj2
      have hra := Dg_getD hda (j := j) (by omega)
      have hrm := Dg_getD hdm (j := j) (by omega)
      have hrs := hshr j hj2
      rw [← hsg j hj2] at hNj
      have hmj := hml2 j
      generalize N.getD j 0 = nj at *
      generalize D.moL.getD j 0 = fj at *
      generalize sh.getD j 0 = sj at *
      generalize xa.getD j 0 = aj at *
      have b1 : 0 ≤ (D.p - top) * fj := Int.mul_nonneg (by omega) hrm.1
      have b2 : (D.p - top) * fj ≤ 256 * 256 := Int.mul_le_mul (by omega) (by omega) hrm.1 (by omega)
      have b3' : 0 ≤ cb * aj := Int.mul_nonneg hcb.1 hra.1
      have b4 : cb * aj ≤ 256 * 256 := Int.mul_le_mul (by omega) (by omega) hra.1 (by omega)
      have v1 : IntKind.i64.wrap (D.p - top) = D.p - top := w64 _ (by omega)
      have v2 : IntKind.i64.wrap ((D.p - top) * fj) = (D.p - top) * fj := w64 _ (by omega)
      have v3 : IntKind.i64.wrap (sj + (D.p - top) * fj) = sj + (D.p - top) * fj := w64 _ (by omega)
      have v4 : IntKind.i64.wrap (cb * aj) = cb * aj := w64 _ (by omega)
      have v5 : IntKind.i64.wrap (sj + (D.p - top) * fj + cb * aj) = sj + (D.p - top) * fj + cb * aj := w64 _ (by omega)
      have v6 : (sj + (D.p - top) * fj + cb * aj).tmod D.p = nj := by
        rw [Int.tmod_eq_emod_of_nonneg (by omega), hNj]
      have v7 : IntKind.i64.wrap ((j : Int) + 1) = j + 1 := w64 _ (by omega)
      have hp0 : (D.p : Int) ≠ 0 := by omega
      have hp0' : D.p ≠ 0 := by omega
      by_cases h1 : D.m = 1
      · have hm1' : ¬ (1 : Int) < D.m := by omega
        have hm1n : ¬ 1 < D.m := by omega
        rw [if_pos h1] at hmj
        rw [hmj] at v2 v3 v5 v6
        simp only [Int.mul_zero, Int.add_zero] at v2 v3 v5 v6
        simp [h54, m3, m7, m8, m9, m10, m11, m53, hj2, q0, q1, q2, hm1', hm1n, hldo, hja, hlda, hib, hldb, v1, v2, v3, v4, v5, v6, v7, hst, hp0, hp0']
        exact hkp2.set hb9 _
      · have hm1' : (1 : Int) < D.m := by omega
        have hm1n : 1 < D.m := by omega
        rw [if_neg h1] at hmj hlmo
        have hjm := hmv.iadr (i := j) ⟨by omega, by omega⟩
        simp at hjm
        have hldm : ∀ h', cellsAt h' (.fp ((ints D.mo).drop j)) 1 = some [I fj] := fun h' => by
          have := ld_ints (h := h') (l := D.mo) (k := j) (by omega)
          rwa [← hmj] at this
        simp [h54, m3, m7, m8, m9, m10, m11, m53, hj2, q0, q1, q2, hm1', hm1n, hldo, hja, hlda, hib, hldb, hjm, hldm, v1, v2, v3, v4, v5, v6, v7, hst, hp0, hp0']
        exact hkp2.set hb9 _
    · have : j = D.m := by omega
      subst this
      rw [List.take_of_length_le (by omega), List.drop_eq_nil_of_le (by omega), List.append_nil] at hb2
      have v7 : IntKind.i64.wrap (i - 1) = i - 1 := w64 _ (by omega)
      simp [h54, m10, m53, v7, hlt]
      exact ⟨hkp2, hb2, by omega⟩
  · have : k = D.m := by omega
    subst this
    have c : ¬ 0 ≤ i := by omega
    rw [Nat.sub_self, List.drop_zero] at hb
    have hol := horner_length (p := D.p) (z := List.replicate D.m 0) (m := D.m) (by simp) hml hla xb
    have hod : Dg D.p (horner D.p D.moL xa (List.replicate D.m 0) xb) := horner_Dg r.p0 (Dg_zeros r.p0 D.m) _
    simp [h10, c]
    refine Fz_one (g := g) (s := 9) (n := D.m) (sz := 1) (by simp [k9]) hb hb9 hkp (by rw [ints_length]; omega) ?_
    have hIo := IL.fs (horner D.p D.moL xa (List.replicate D.m 0) xb)
    rw [hol] at hIo
    simp [k3, l0]
    refine (s_valueOf hIo (p := D.p) (by omega) (by omega) hod (by rw [hol]; exact r.pm) (by omega)).call ?_
    simp [hmul]
    exact ⟨_, hkg.sub, .id _, rfl⟩
end Go.AM.Ytmihmgnjnedfcaa

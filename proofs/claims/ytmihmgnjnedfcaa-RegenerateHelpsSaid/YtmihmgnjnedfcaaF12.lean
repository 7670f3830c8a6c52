/- Contracts of functions: the reference's sums, sums of products on both sides. -/
import Derived.Test.YtmihmgnjnedfcaaF11
set_option maxRecDepth 100000
set_option linter.unusedSimpArgs false
set_option linter.unusedVariables false
namespace Go.AM.Ytmihmgnjnedfcaa
open Go Go.AM
attribute [local simp ↓] awp_seq awp_reg awp_skip awp_cond' awp_block awp_exit awp_ret awp_fz thenW_normal thenW_exit thenW_ret inBlk_normal inBlk_exit inBlk_ret aops_cons' contA_ap aops_nil e_mv e_guard' e_pick' e_ld' e_app e_cpy e_st' e_call callW_f updO_some updO_none e_bin' e_isnil' e_fadr' e_iadr' e_iarr' e_len' e_build' e_mkf' e_nc' e_not' e_neg' e_cvt' e_slc' e_fld' e_ext' e_min' e_eqs' e_new e_box e_mkl e_mks
attribute [local simp] upd_apply ev_t ev_k ev_f binA_add binA_sub binA_mul binA_quo binA_rem binA_eql binA_neq binA_lss binA_leq binA_gtr binA_geq det mem frame0 keeps_nil iadrA_sl fadrA_ref fadrA_fp ldv_agg ldv_one cells_base hset_same hset_hset lenA_fs lenA_sl lenA_nils zeros_ints ints_length one_base one_nilp one_nils one_ref one_sl one_fp one_fs one_fn gl_one resA resOf bound natOf afill splice AV.cells cells_agg bindR_some condR_true condR_false guardR_tup guardR_true guardR_true' guardR_false guardR_false' allocW_some pickA_true pickA_false
open Go.FM

/-- A function ends with a live block of whole numbers of its own. -/
def LiveR (h : Hp) (l : List Int) (v : AV) (h' : Hp) : Prop := Kp h h' ∧ ∃ b, h b = none ∧ v = .sl b 0 l.length 1 ∧ h' b = some (ints l)

theorem call0 {P : Program} {i : FuncId} {avs : List AV} {h : Hp} {R0 R : AV → Hp → Prop} (s : Spec P i avs h R0) (k : ∀ v h', R0 v h' → R v h') : CallP P 0 i avs h R := s.mono k
theorem call2 {P : Program} {i : FuncId} {avs : List AV} {h : Hp} {R0 R : AV → Hp → Prop} (s : Spec P i avs h R0) (k : ∀ v h', R0 v h' → Kp h h' ∧ R v h') : CallP P 2 i avs h R := s.mono fun v h' hr => k v h' hr

theorem w_digits {x p : Int} {m : Nat} (hx : 0 ≤ x ∧ x ≤ 9223372036854775807) (hp : 2 ≤ p) (hm : m ≤ 4294967296) (h : Hp) : Spec prog n_ref04_digits [I x, I p, I m] h (LiveR h (digs p m x)) := by
  refine spec_of cf_ref04_digits rfl ?_
  have hm' : (m : Int) ≤ 4294967296 := by omega
  simp [hm']
  intro b7 hb7
  have hk0 : Kp h (hset h b7 (ints (List.replicate m 0))) := (Kp.refl h).new hb7 _
  refine awp_for m (fun k fr' h' => Kp h h' ∧ h' b7 = some (ints (digs p k x ++ List.replicate (m - k) 0)) ∧ fr' 8 = I k ∧ fr' 0 = I (dv p k x)) ⟨hk0, by simp [hset_same, digs], by simp, by simp [dv]⟩ ?_
  intro k fr' h' hkn hk ⟨hkp, hb, h13, h0⟩
  have k1 := hk 1 (by decide)
  have k2 := hk 2 (by decide)
  have k7 := hk 7 (by decide)
  simp at k1 k2 k7
  clear hk
  by_cases hlt : k < m
  · have hdr := dv_range hp k hx.1
    have hp0 : p ≠ 0 := by omega
    have e1 : (dv p k x).tmod p = dv p k x % p := Int.tmod_eq_emod_of_nonneg hdr.1
    have e2 : (dv p k x).tdiv p = dv p (k + 1) x := by rw [dv_succ]; exact Int.tdiv_eq_ediv_of_nonneg hdr.1
    have hdr2 := dv_range hp (k + 1) hx.1
    have u1 : IntKind.i64.wrap (dv p (k + 1) x) = dv p (k + 1) x := w64 _ (by omega)
    have u2 : IntKind.i64.wrap ((k : Int) + 1) = k + 1 := w64 _ (by omega)
    have st := fun R => sr_ints (R := R) (v := dv p k x % p) hb (k := k) (by simp [digs_length]; omega)
    rw [set_mid (digs_length p k x) hlt] at st
    simp [h13, h0, k1, k2, k7, hlt, hp0, e1, e2, u1, u2, st]
    exact ⟨hkp.set hb7 _, by rw [digs_snoc]; simp⟩
  · have : k = m := by omega
    subst this
    simp [h13, k2, k7]
    rw [Nat.sub_self, List.replicate_zero, List.append_nil] at hb
    exact ⟨hkp, b7, hb7, by rw [digs_length], hb⟩

theorem w_refDigits {D : Ds} (r : Rg D) {mv : AV} (hone : one mv = true) (x : Int) (h : Hp) : Spec prog n_ref04_Digits [.agg [I D.p, I D.m, mv], I x] h (LiveR h (digs D.p D.m (D.inn x))) := by
  refine spec_of cf_ref04_Digits rfl ?_
  simp [hone]
  intro b2 hb2
  obtain ⟨l0, l1, l2, l3⟩ := ld3_at (hset_same h b2 [I D.p, I D.m, mv])
  have hkg : Kp h (hset h b2 [I D.p, I D.m, mv]) := (Kp.refl h).new hb2 _
  generalize hset h b2 [I D.p, I D.m, mv] = g at *
  have h1 := r.p2
  have h2 := r.m8
  have h3 := r.toOk.innR x
  have h4 := r.q256
  unfold Ds.R at h3
  simp [l0, l1, l3]
  refine (s_refIn r hone x).call ?_
  simp
  refine call2 (w_digits (x := D.inn x) (p := D.p) (m := D.m) ⟨by omega, by omega⟩ (by omega) (by omega) g) fun v h' ⟨c1, b, c2, c3, c4⟩ => ⟨c1, ?_⟩
  simp
  exact ⟨hkg.trans c1, b, hkg.no c2, c3, c4⟩

theorem zipAdd_len {xa xb : List Int} {p : Int} {m : Nat} : (red p m (fun j => vl xa j + vl xb j)).length = m := red_length ..

set_option maxHeartbeats 2000000 in
theorem s_refAdd {D : Ds} (r : Rg D) {mv : AV} (hmv : IL mv D.mo) (x y : Int) : Pure prog n_ref04_Add [.agg [I D.p, I D.m, mv], I x, I y] (I (D.add x y)) := by
  refine pure_of cf_ref04_Add rfl fun h => ?_
  have hone := hmv.one
  have hp2 := r.p2
  have hm1 := r.m1
  have hm8 := r.m8
  have hp256 := r.p256
  simp [hone]
  intro b3 hb3
  obtain ⟨l0, l1, l2, l3⟩ := ld3_at (hset_same h b3 [I D.p, I D.m, mv])
  have hkg : Kp h (hset h b3 [I D.p, I D.m, mv]) := (Kp.refl h).new hb3 _
  have hg3 : (hset h b3 [I D.p, I D.m, mv]) b3 = some [I D.p, I D.m, mv] := hset_same ..
  generalize hset h b3 [I D.p, I D.m, mv] = g at *
  have hadd : D.add x y = val D.p (red D.p D.m (fun j => vl (digs D.p D.m (D.inn x)) j + vl (digs D.p D.m (D.inn y)) j)) := rfl
  rw [hadd]
  clear hadd
  have hla := digs_length (D.p : Int) D.m (D.inn x)
  have hlb := digs_length (D.p : Int) D.m (D.inn y)
  have hda := digs_Dg r.p0 D.m (D.inn x)
  have hdb := digs_Dg r.p0 D.m (D.inn y)
  have hIb := IL.fs (digs (D.p : Int) D.m (D.inn y))
  rw [hlb] at hIb
  simp [l3]
  refine call0 (w_refDigits r hone x g) fun v h1 ⟨c1, b7, c2, c3, c4⟩ => ?_
  have hg31 := c1 b3 _ hg3
  obtain ⟨_, _, _, m3⟩ := ld3_at hg31
  simp [m3]
  refine (s_refDigits r hone y).call ?_
  subst c3
  generalize digs (D.p : Int) D.m (D.inn x) = xa at *
  generalize digs (D.p : Int) D.m (D.inn y) = xb at *
  obtain ⟨vv, hvv⟩ : ∃ vv : FM.V, vv = fun j => vl xa j + vl xb j := ⟨_, rfl⟩
  rw [← hvv]
  rw [hla]
  simp
  have hN := red_length (D.p : Int) D.m vv
  have hNd := red_Dg r.p0 D.m vv
  have hNg : ∀ j, j < D.m → (red D.p D.m vv).getD j 0 = (xa.getD j 0 + xb.getD j 0) % D.p := fun j hj => by
    have := vl_red (p := D.p) (v := vv) hj
    rw [vl_getD] at this
    rw [this, hvv]; rfl
  clear hvv
  generalize red (D.p : Int) D.m vv = N at *
  refine awp_for D.m (fun k fr' h' => Kp g h' ∧ h' b7 = some (ints (N.take k ++ xa.drop k)) ∧ fr' 9 = I k) ⟨c1, by simpa using c4, by simp⟩ ?_
  intro k fr' h' hkn hk ⟨hkp, hb, k9⟩
  have k3 := hk 3 (by decide)
  have k7 := hk 7 (by decide)
  have k8 := hk 8 (by decide)
  simp at k3 k7 k8
  clear hk
  obtain ⟨p0, p1, p2, p3⟩ := ld3_at (hkp b3 _ hg3)
  by_cases hlt : k < D.m
  · have hldo := ld_ints_at hb (k := k) (by rw [tk_len (by omega) (by omega)]; omega)
    rw [tk_get (by omega), if_neg (by omega)] at hldo
    have hst := fun R => sr_ints (R := R) (v := N.getD k 0) hb (k := k) (by rw [tk_len (by omega) (by omega)]; omega)
    rw [tk_set (by omega) (by omega)] at hst
    have hib := hIb.iadr (i := k) ⟨by omega, by omega⟩
    simp at hib
    have hldb := fun h' => ld_ints (h := h') (l := xb) (k := k) (by omega)
    have ra := Dg_getD hda (j := k) (by omega)
    have rb := Dg_getD hdb (j := k) (by omega)
    have hnk := hNg k hlt
    generalize N.getD k 0 = nk at *
    generalize xa.getD k 0 = ak at *
    generalize xb.getD k 0 = bk at *
    have u1 : IntKind.i64.wrap (ak + bk) = ak + bk := w64 _ (by omega)
    have t1 : (ak + bk).tmod D.p = nk := by rw [Int.tmod_eq_emod_of_nonneg (by omega), hnk]
    have u2 : IntKind.i64.wrap ((k : Int) + 1) = k + 1 := w64 _ (by omega)
    have hp0 : (D.p : Int) ≠ 0 := by omega
    have hp0' : D.p ≠ 0 := by omega
    simp [k3, k7, k8, k9, hlt, hldo, hib, hldb, p0, u1, t1, u2, hp0, hp0', hst]
    exact hkp.set c2 _
  · have : k = D.m := by omega
    subst this
    rw [List.take_of_length_le (by omega), List.drop_eq_nil_of_le (by omega), List.append_nil] at hb
    simp [k7, k9]
    refine Fz_one (g := g) (s := 7) (n := D.m) (sz := 1) (by simp [k7]) hb c2 hkp (by rw [ints_length]; omega) ?_
    have hIo := IL.fs N
    rw [hN] at hIo
    simp [k3, l3]
    refine (s_Value hIo hone (m := D.m) (p := D.p) (by omega) (by omega) hNd (by rw [hN]; exact r.pm) (by omega)).call ?_
    simp
    exact ⟨_, hkg.sub, .id _, rfl⟩

/-- The sum of the first k products. -/
def dotK (D : Ds) (a b : List Int) : Nat → Int
  | 0 => 0
  | k + 1 => D.add (dotK D a b k) (D.mul (a.getD k 0) (b.getD k 0))

theorem s_Dot {D : Ds} (r : Fd D) {v w : AV} {a b : List Int} (hv : IL v a) (hw : IL w b) (hla : a.length < 4611686018427387904) (hlb : b.length < 4611686018427387904) : Pure prog n_field_GF_Dot [.fp (gfC D), v, w] (I (dotK D a b (min a.length b.length))) := by
  refine pure_of cf_field_GF_Dot rfl fun h => ?_
  have hmin : (if (b.length : Int) < a.length then (b.length : Int) else a.length) = ((min a.length b.length : Nat) : Int) := by omega
  have hmin2 : (if b.length < a.length then (b.length : Int) else (a.length : Int)) = ((min a.length b.length : Nat) : Int) := by split <;> omega
  simp [hv.len, hw.len, hmin]
  generalize hn : min a.length b.length = n at *
  refine awp_for n (fun k fr' h' => h' = h ∧ fr' 14 = I k ∧ fr' 7 = I (dotK D a b k)) ⟨rfl, by simp, by simp [dotK]⟩ ?_
  intro k fr' h' hkn hk ⟨hh, k14, k7⟩
  subst hh
  have k0 := hk 0 (by decide)
  have k1 := hk 1 (by decide)
  have k2 := hk 2 (by decide)
  have k13 := hk 13 (by decide)
  simp at k0 k1 k2 k13
  rw [hmin2] at k13
  clear hk
  by_cases hlt : k < n
  · have hia := hv.iadr (i := k) ⟨by omega, by omega⟩
    have hib := hw.iadr (i := k) ⟨by omega, by omega⟩
    simp at hia hib
    have hlda := fun h' => ld_ints (h := h') (l := a) (k := k) (by omega)
    have hldb := fun h' => ld_ints (h := h') (l := b) (k := k) (by omega)
    have hs : dotK D a b (k + 1) = D.add (dotK D a b k) (D.mul (a.getD k 0) (b.getD k 0)) := rfl
    rw [hs]
    have u2 : IntKind.i64.wrap ((k : Int) + 1) = k + 1 := w64 _ (by omega)
    clear hs
    generalize a.getD k 0 = ak at *
    generalize b.getD k 0 = bk at *
    simp [k0, k1, k2, k7, k13, k14, hlt, hia, hib, hlda, hldb]
    refine (s_Mul r ak bk).call ?_
    simp
    refine (s_Add r _ _).call ?_
    simp [k14, u2]
  · have : k = n := by omega
    subst this
    simp [k7, k13, k14]
    exact RetP.same

theorem s_refDot {D : Ds} (r : Fd D) {mv v w : AV} (hmv : IL mv D.mo) {a b : List Int} (hv : IL v a) (hw : IL w b) (hla : a.length < 4611686018427387904) (hlb : b.length < 4611686018427387904) : Pure prog n_ref04_Dot [.agg [I D.p, I D.m, mv], v, w] (I (dotK D a b (min a.length b.length))) := by
  refine pure_of cf_ref04_Dot rfl fun h => ?_
  have hone := hmv.one
  simp [hone]
  intro b3 hb3
  obtain ⟨l0, l1, l2, l3⟩ := ld3_at (hset_same h b3 [I D.p, I D.m, mv])
  have hkg : Kp h (hset h b3 [I D.p, I D.m, mv]) := (Kp.refl h).new hb3 _
  generalize hset h b3 [I D.p, I D.m, mv] = g at *
  generalize hn : min a.length b.length = n at *
  refine awp_for n (fun k fr' h' => h' = g ∧ fr' 8 = I k ∧ fr' 7 = I (dotK D a b k)) ⟨rfl, by simp, by simp [dotK]⟩ ?_
  intro k fr' h' hkn hk ⟨hh, k8, k7⟩
  subst hh
  have k1 := hk 1 (by decide)
  have k2 := hk 2 (by decide)
  have k3 := hk 3 (by decide)
  simp at k1 k2 k3
  clear hk
  by_cases hlt : k < n
  · have hia := hv.iadr (i := k) ⟨by omega, by omega⟩
    have hib := hw.iadr (i := k) ⟨by omega, by omega⟩
    simp at hia hib
    have hlda := fun h' => ld_ints (h := h') (l := a) (k := k) (by omega)
    have hldb := fun h' => ld_ints (h := h') (l := b) (k := k) (by omega)
    have hs : dotK D a b (k + 1) = D.add (dotK D a b k) (D.mul (a.getD k 0) (b.getD k 0)) := rfl
    rw [hs]
    have u2 : IntKind.i64.wrap ((k : Int) + 1) = k + 1 := w64 _ (by omega)
    have c1 : k < a.length := by omega
    have c2 : k < b.length := by omega
    clear hs
    generalize a.getD k 0 = ak at *
    generalize b.getD k 0 = bk at *
    simp [k1, k2, k3, k7, k8, hv.len, hw.len, c1, c2, l3, hia, hib, hlda, hldb]
    refine (s_refMul r.toRg hmv ak bk).call ?_
    simp
    refine (s_refAdd r.toRg hmv _ _).call ?_
    simp [k8, u2]
    exact hlt
  · have : k = n := by omega
    subst this
    by_cases c1 : k < a.length
    · have c2 : ¬ k < b.length := by omega
      simp [k1, k2, k7, k8, hv.len, hw.len, c1, c2]
      exact ⟨_, hkg.sub, .id _, rfl⟩
    · simp [k1, k7, k8, hv.len, c1]
      exact ⟨_, hkg.sub, .id _, rfl⟩
end Go.AM.Ytmihmgnjnedfcaa

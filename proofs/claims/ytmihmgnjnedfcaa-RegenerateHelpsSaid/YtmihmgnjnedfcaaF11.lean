/- Contracts of functions: negatives, differences, products, inverses, sums of products of the program. -/
import Derived.Test.YtmihmgnjnedfcaaF10
set_option maxRecDepth 100000
set_option linter.unusedSimpArgs false
set_option linter.unusedVariables false
namespace Go.AM.Ytmihmgnjnedfcaa
open Go Go.AM
attribute [local simp ↓] awp_seq awp_reg awp_skip awp_cond' awp_block awp_exit awp_ret awp_fz thenW_normal thenW_exit thenW_ret inBlk_normal inBlk_exit inBlk_ret aops_cons' contA_ap aops_nil e_mv e_guard' e_pick' e_ld' e_app e_cpy e_st' e_call callW_f updO_some updO_none e_bin' e_isnil' e_fadr' e_iadr' e_iarr' e_len' e_build' e_mkf' e_nc' e_not' e_neg' e_cvt' e_slc' e_fld' e_ext' e_min' e_eqs' e_new e_box e_mkl e_mks
attribute [local simp] upd_apply ev_t ev_k ev_f binA_add binA_sub binA_mul binA_quo binA_rem binA_eql binA_neq binA_lss binA_leq binA_gtr binA_geq det mem frame0 keeps_nil iadrA_sl fadrA_ref fadrA_fp ldv_agg ldv_one cells_base hset_same hset_hset lenA_fs lenA_sl lenA_nils zeros_ints ints_length one_base one_nilp one_nils one_ref one_sl one_fp one_fs one_fn gl_one resA resOf bound natOf afill splice AV.cells cells_agg bindR_some condR_true condR_false guardR_tup guardR_true guardR_true' guardR_false guardR_false' allocW_some pickA_true pickA_false
open Go.FM

set_option maxHeartbeats 2000000 in
theorem s_Neg {D : Ds} (r : Fd D) (x : Int) : Pure prog n_field_GF_Neg [.fp (gfC D), I x] (I (D.neg x)) := by
  refine pure_of cf_field_GF_Neg rfl fun h => ?_
  have hp2 := r.p2
  have hm8 := r.m8
  have hp256 := r.p256
  have hq := r.pm
  have l0 := gf_ld' D
  simp
  refine (s_in r x).call ?_
  have hRx := r.toOk.innR x
  have hneg : D.neg x = val D.p (red D.p D.m (fun j => -1 * vl (digs D.p D.m (D.inn x)) j)) := rfl
  rw [hneg]
  clear hneg
  generalize D.inn x = a at *
  have ha := hRx
  unfold Ds.R at ha
  rw [Ds.qI] at ha
  generalize gfC D = C at *
  obtain ⟨v, hv⟩ : ∃ v : FM.V, v = fun j => -1 * vl (digs D.p D.m a) j := ⟨_, rfl⟩
  have hvk : ∀ j, j < D.m → v j = -1 * (dv D.p j a % D.p) := fun j hj => by rw [hv]; simp only; rw [vl_digs hj]
  rw [← hv]
  clear hv
  simp
  have hpI : (2 : Int) ≤ D.p := by omega
  have hp0 : (D.p : Int) ≠ 0 := by omega
  have hp0' : D.p ≠ 0 := by omega
  refine awp_for D.m (fun k fr' h' => h' = h ∧ fr' 1 = I (dv D.p k a) ∧ fr' 5 = I (val D.p (red D.p k v)) ∧ fr' 6 = I (D.p ^ k)) ⟨rfl, by simp [dv], by simp [red, val], by simp⟩ ?_
  intro k fr' h' hkn hk ⟨hh, k1, k7, k8⟩
  subst hh
  have k0 := hk 0 (by decide)
  simp at k0
  clear hk
  have ra := dv_range hpI k ha.1
  by_cases c : 0 < dv D.p k a
  · have hlt : k < D.m := by
      apply Classical.byContradiction
      intro hc
      have : k = D.m := by omega
      subst this
      have z1 := dv_zero (p := D.p) (by omega) ha.1 ha.2
      omega
    have hdm : (-1 * (dv D.p k a % D.p)) % D.p = (D.p - dv D.p k a % D.p) % D.p := by
      rw [show -1 * (dv D.p k a % D.p) = (D.p - dv D.p k a % D.p) + (-1) * D.p by omega, Int.add_mul_emod_self_right]
    have hsn : val D.p (red D.p (k + 1) v) = val D.p (red D.p k v) + D.p ^ k * ((D.p - dv D.p k a % D.p) % D.p) := by
      rw [red_snoc, val_append, red_length, hvk k hlt, hdm]; simp [val]
    have hbd := val_red_le hp2 (show k + 1 ≤ D.m by omega) hq v
    have hbd2 := val_red_le hp2 (show k ≤ D.m by omega) hq v
    have t1 : (dv D.p k a).tmod D.p = dv D.p k a % D.p := Int.tmod_eq_emod_of_nonneg ra.1
    have t3 : (dv D.p k a).tdiv D.p = dv D.p (k + 1) a := by rw [dv_succ]; exact Int.tdiv_eq_ediv_of_nonneg ra.1
    have ra2 := dv_range hpI (k + 1) ha.1
    have e1 : 0 ≤ dv D.p k a % D.p ∧ dv D.p k a % D.p < D.p := ⟨Int.emod_nonneg _ hp0, Int.emod_lt_of_pos _ (by omega)⟩
    have hps : (D.p : Int) ^ (k + 1) = D.p ^ k * D.p := Int.pow_succ ..
    have hple := pow_mono hpI (show k + 1 ≤ D.m by omega)
    have hpp := pow_pos2 hpI (k + 1)
    have hpp2 := pow_pos2 hpI k
    have hple2 := pow_mono hpI (show k ≤ D.m by omega)
    rw [hsn] at hbd ⊢
    clear hdm hsn
    generalize dv D.p (k + 1) a = a2 at *
    generalize hda : dv D.p k a % D.p = da at *
    generalize dv D.p k a = ak at *
    generalize val D.p (red D.p k v) = sk at *
    have u1 : IntKind.i64.wrap (D.p - da) = D.p - da := w64 _ (by omega)
    have t5 : ((D.p : Int) - da).tmod D.p = (D.p - da) % D.p := Int.tmod_eq_emod_of_nonneg (by omega)
    generalize ((D.p : Int) - da) % (D.p : Int) = dk at *
    have u2 : IntKind.i64.wrap (dk * D.p ^ k) = D.p ^ k * dk := by rw [Int.mul_comm]; exact w64 _ (by omega)
    have u3 : IntKind.i64.wrap (sk + D.p ^ k * dk) = sk + D.p ^ k * dk := w64 _ (by omega)
    have u4 : IntKind.i64.wrap ((D.p : Int) ^ k * D.p) = D.p ^ (k + 1) := by rw [← hps]; exact w64 _ (by omega)
    have u5 : IntKind.i64.wrap a2 = a2 := w64 _ (by omega)
    generalize (D.p : Int) ^ (k + 1) = pk1 at *
    generalize (D.p : Int) ^ k = pk at *
    simp [k0, k1, k7, k8, c, isNil, l0, hp0, hp0', t1, t3, t5, u1, u2, u3, u4, u5]
    exact hlt
  · have z1 : dv D.p k a = 0 := by omega
    have hst := val_stop (p := D.p) hkn (v := v) fun j hj hjm => by
      rw [hvk j hjm, dv_stay j k z1 hj]; simp
    simp [k1, k7, z1, hst]
    exact RetP.same

theorem s_Sub {D : Ds} (r : Fd D) (x y : Int) : Pure prog n_field_GF_Sub [.fp (gfC D), I x, I y] (I (D.sub x y)) := by
  refine pure_of cf_field_GF_Sub rfl fun h => ?_
  simp
  refine (s_Neg r y).call ?_
  simp
  refine (s_Add r x (D.neg y)).call ?_
  simp
  exact RetP.same

/-- The exponent of an element. -/
noncomputable def lgD (D : Ds) (y : Int) : Nat := ((logK D (gen0 D) (D.q - 1)).getD y.toNat 0).toNat
theorem lgD_spec {D : Ds} (r : Fd D) {y : Int} (hy : D.R y) (h0 : y ≠ 0) : lgD D y < D.q - 1 ∧ D.pw (gen0 D) (lgD D y) = y ∧ (logK D (gen0 D) (D.q - 1)).getD y.toNat 0 = lgD D y := by
  obtain ⟨i, h1, h2, h3⟩ := log_ex r hy h0
  have e : lgD D y = i := by unfold lgD; rw [h3]; simp
  rw [e]
  exact ⟨h1, h2, h3⟩

/-- The inverse. -/
noncomputable def invD (D : Ds) (x : Int) : Int := if D.inn x = 0 then 0 else D.pw (gen0 D) ((D.q - 1 - lgD D (D.inn x)) % (D.q - 1))

theorem mul_inv {D : Ds} (r : Fd D) {x : Int} (h0 : D.inn x ≠ 0) : D.mul x (invD D x) = 1 := by
  have g1 := (gen0_spec r.toRg r.gen).1
  obtain ⟨h1, h2, _⟩ := lgD_spec r (r.toOk.innR x) h0
  unfold invD
  rw [if_neg h0, ← r.toOk.inn_mul', ← g1.mod r.toOk]
  conv => lhs; arg 2; rw [← h2]
  rw [← r.toOk.pw_add, show lgD D (D.inn x) + (D.q - 1 - lgD D (D.inn x)) = D.q - 1 by omega]
  exact g1.top
theorem invR {D : Ds} (o : D.Ok) (x : Int) : D.R (invD D x) := by
  unfold invD
  split
  · exact o.q0
  · exact o.pwR _ _

/-- What the tables are: a slice of powers, a slice of exponents. -/
theorem gf_tabs {D : Ds} (r : Fd D) : ∃ (C : List AV) (EX LG : List Int), gfC D = C ∧ (∀ h, cellsAt h (.fp (C.drop 3)) 1 = some [I D.q]) ∧ (∀ h, cellsAt h (.fp (C.drop 4)) 1 = some [.fs (D.q - 1) (ints EX)]) ∧ (∀ h, cellsAt h (.fp (C.drop 5)) 1 = some [.fs D.q (ints LG)]) ∧
    IL (.fs (D.q - 1) (ints EX)) EX ∧ IL (.fs D.q (ints LG)) LG ∧ EX.length = D.q - 1 ∧ LG.length = D.q ∧ (∀ k, k < D.q - 1 → EX.getD k 0 = D.pw (gen0 D) k) ∧ (∀ y, D.R y → y ≠ 0 → LG.getD y.toNat 0 = lgD D y) := by
  refine ⟨gfC D, pwL D (gen0 D) (D.q - 1), logK D (gen0 D) (D.q - 1), rfl, fun h => (gf_ld D h).1, fun h => (gf_ld D h).2.1, fun h => (gf_ld D h).2.2.1, ?_, ?_, pwL_len .., logK_len .., fun k hk => pwL_getD hk, fun y hy h0 => (lgD_spec r hy h0).2.2⟩
  · have := IL.fs (pwL D (gen0 D) (D.q - 1)); rwa [pwL_len] at this
  · have := IL.fs (logK D (gen0 D) (D.q - 1)); rwa [logK_len] at this

theorem s_Mul {D : Ds} (r : Fd D) (x y : Int) : Pure prog n_field_GF_Mul [.fp (gfC D), I x, I y] (I (D.mul x y)) := by
  refine pure_of cf_field_GF_Mul rfl fun h => ?_
  have hq := r.q256
  have hq2 := r.q2
  have fin : ∀ z, D.mul x y = z → RetP h (I (D.mul x y)) (I z) h := fun z hz => hz ▸ RetP.same
  simp
  refine (s_in r x).call ?_
  simp
  refine (s_in r y).call ?_
  have hRx := r.toOk.innR x
  have hRy := r.toOk.innR y
  have hxy : D.mul x y = D.mul (D.inn x) (D.inn y) := by rw [r.toOk.mul_inn, r.toOk.inn_mul']
  generalize D.inn x = a at *
  generalize D.inn y = b at *
  by_cases c1 : a = 0
  · simp [c1]
    exact fin 0 (by rw [hxy, c1, r.toOk.zero_mul])
  by_cases c2 : b = 0
  · simp [c1, c2]
    exact fin 0 (by rw [hxy, c2, r.toOk.mul_zero])
  have g1 := (gen0_spec r.toRg r.gen).1
  obtain ⟨i1, i2, _⟩ := lgD_spec r hRx c1
  obtain ⟨j1, j2, _⟩ := lgD_spec r hRy c2
  have hres : D.pw (gen0 D) ((lgD D a + lgD D b) % (D.q - 1)) = D.mul x y := by
    rw [← g1.mod r.toOk, r.toOk.pw_add, i2, j2, hxy]
  obtain ⟨C, EX, LG, hC, l3, l4, l5, hE, hL, hEl, hLl, hEg, hLg⟩ := gf_tabs r
  have ha1 := hRx.1
  have ha2 := hRx.2
  have hb1 := hRy.1
  have hb2 := hRy.2
  have hia := hL.iadr (i := a) ⟨ha1, by omega⟩
  have hib := hL.iadr (i := b) ⟨hb1, by omega⟩
  have hla := fun h' => ld_ints (h := h') (l := LG) (k := a.toNat) (by omega)
  have hlb := fun h' => ld_ints (h := h') (l := LG) (k := b.toNat) (by omega)
  rw [hLg a hRx c1] at hla
  rw [hLg b hRy c2] at hlb
  generalize lgD D a = i at *
  generalize lgD D b = j at *
  have u1 : IntKind.i64.wrap ((i : Int) + j) = ((i + j : Nat) : Int) := by rw [w64 _ (by omega)]; omega
  have u2 : IntKind.i64.wrap ((D.q : Int) - 1) = ((D.q - 1 : Nat) : Int) := by rw [w64 _ (by omega)]; omega
  have hk0 : ¬ ((D.q - 1 : Nat) : Int) = 0 := by omega
  have hk0' : ¬ D.q - 1 = 0 := by omega
  have t1 : ((i + j : Nat) : Int).tmod ((D.q - 1 : Nat) : Int) = (((i + j) % (D.q - 1) : Nat) : Int) := (Int.ofNat_tmod _ _).symm
  have hlt : (i + j) % (D.q - 1) < D.q - 1 := Nat.mod_lt _ (by omega)
  have hie := hE.iadr (i := (((i + j) % (D.q - 1) : Nat) : Int)) ⟨by omega, by omega⟩
  simp only [Int.toNat_natCast] at hie
  have hle := fun h' => ld_ints (h := h') (l := EX) (k := (i + j) % (D.q - 1)) (by omega)
  rw [hEg _ hlt, hres] at hle
  clear hres
  generalize (i + j) % (D.q - 1) = e at *
  generalize i + j = ij at *
  generalize D.q - 1 = Q1 at *
  rw [hC]
  simp [c1, c2, isNil, l3, l4, l5, hia, hib, hla, hlb, u1, u2, hk0, hk0', t1, hie, hle]
  exact RetP.same

theorem s_Inv {D : Ds} (r : Fd D) (x : Int) : Pure prog n_field_GF_Inv [.fp (gfC D), I x] (.tup [I (invD D x), I (if D.inn x = 0 then 7 else 0)]) := by
  refine pure_of cf_field_GF_Inv rfl fun h => ?_
  have hq := r.q256
  have hq2 := r.q2
  simp
  refine (s_in r x).call ?_
  have hRx := r.toOk.innR x
  unfold invD
  generalize D.inn x = a at *
  by_cases c1 : a = 0
  · simp [c1]
    exact RetP.same
  rw [if_neg c1, if_neg c1]
  obtain ⟨i1, i2, _⟩ := lgD_spec r hRx c1
  obtain ⟨C, EX, LG, hC, l3, l4, l5, hE, hL, hEl, hLl, hEg, hLg⟩ := gf_tabs r
  have ha1 := hRx.1
  have ha2 := hRx.2
  have hia := hL.iadr (i := a) ⟨ha1, by omega⟩
  have hla := fun h' => ld_ints (h := h') (l := LG) (k := a.toNat) (by omega)
  rw [hLg a hRx c1] at hla
  generalize lgD D a = i at *
  have u2 : IntKind.i64.wrap ((D.q : Int) - 1) = ((D.q - 1 : Nat) : Int) := by rw [w64 _ (by omega)]; omega
  have u1 : IntKind.i64.wrap (((D.q - 1 : Nat) : Int) - i) = ((D.q - 1 - i : Nat) : Int) := by rw [w64 _ (by omega)]; omega
  have hk0 : ¬ ((D.q - 1 : Nat) : Int) = 0 := by omega
  have hk0' : ¬ D.q - 1 = 0 := by omega
  have t1 : ((D.q - 1 - i : Nat) : Int).tmod ((D.q - 1 : Nat) : Int) = (((D.q - 1 - i) % (D.q - 1) : Nat) : Int) := (Int.ofNat_tmod _ _).symm
  have hlt : (D.q - 1 - i) % (D.q - 1) < D.q - 1 := Nat.mod_lt _ (by omega)
  have hie := hE.iadr (i := (((D.q - 1 - i) % (D.q - 1) : Nat) : Int)) ⟨by omega, by omega⟩
  simp only [Int.toNat_natCast] at hie
  have hle := fun h' => ld_ints (h := h') (l := EX) (k := (D.q - 1 - i) % (D.q - 1)) (by omega)
  rw [hEg _ hlt] at hle
  generalize (D.q - 1 - i) % (D.q - 1) = e at *
  generalize D.q - 1 - i = ij at *
  generalize D.q - 1 = Q1 at *
  rw [hC]
  generalize D.pw (gen0 D) e = z at *
  simp [c1, isNil, l3, l4, l5, hia, hla, u1, u2, hk0, hk0', t1, hie, hle]
  exact RetP.same

theorem s_Div {D : Ds} (r : Fd D) (x y : Int) (h0 : D.inn y ≠ 0) : Pure prog n_field_GF_Div [.fp (gfC D), I x, I y] (.tup [I (D.mul x (invD D y)), I 0]) := by
  refine pure_of cf_field_GF_Div rfl fun h => ?_
  simp
  refine (s_Inv r y).call ?_
  rw [if_neg h0]
  simp
  refine (s_Mul r x (invD D y)).call ?_
  simp
  exact RetP.same

/-- The sum of products, from the left. -/
def dotD (D : Ds) : List Int → List Int → Int → Int
  | x :: xs, y :: ys, s => dotD D xs ys (D.add s (D.mul x y))
  | _, _, s => s
end Go.AM.Ytmihmgnjnedfcaa

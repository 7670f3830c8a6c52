/- Contracts of functions: sums, negatives, products, inverses of the program. -/
import Derived.Test.YtmihmgnjnedfcaaF9
import Derived.Test.YtmihmgnjnedfcaaFX
import Derived.Test.YtmihmgnjnedfcaaAMQ
import Derived.Test.YtmihmgnjnedfcaaC5
set_option maxRecDepth 100000
set_option linter.unusedSimpArgs false
set_option linter.unusedVariables false
namespace Go.AM.Ytmihmgnjnedfcaa
open Go Go.AM
attribute [local simp ↓] awp_seq awp_reg awp_skip awp_cond' awp_block awp_exit awp_ret awp_fz thenW_normal thenW_exit thenW_ret inBlk_normal inBlk_exit inBlk_ret aops_cons' contA_ap aops_nil e_mv e_guard' e_pick' e_ld' e_app e_cpy e_st' e_call callW_f updO_some updO_none e_bin' e_isnil' e_fadr' e_iadr' e_iarr' e_len' e_build' e_mkf' e_nc' e_not' e_neg' e_cvt' e_slc' e_fld' e_ext' e_min' e_eqs' e_new e_box e_mkl e_mks
attribute [local simp] upd_apply ev_t ev_k ev_f binA_add binA_sub binA_mul binA_quo binA_rem binA_eql binA_neq binA_lss binA_leq binA_gtr binA_geq det mem frame0 keeps_nil iadrA_sl fadrA_ref fadrA_fp ldv_agg ldv_one cells_base hset_same hset_hset lenA_fs lenA_sl lenA_nils zeros_ints ints_length one_base one_nilp one_nils one_ref one_sl one_fp one_fs one_fn gl_one resA resOf bound natOf afill splice AV.cells cells_agg bindR_some condR_true condR_false guardR_tup guardR_true guardR_true' guardR_false guardR_false' allocW_some pickA_true pickA_false
open Go.FM

theorem dv_zero {p : Int} (hp : 0 < p) : ∀ {m : Nat} {x : Int}, 0 ≤ x → x < p ^ m → dv p m x = 0
  | 0, x, h0, h1 => by simp at h1; show x = 0; omega
  | m + 1, x, h0, h1 => by
    have h2 : x / p < p ^ m := Int.ediv_lt_of_lt_mul hp (by rw [Int.pow_succ] at h1; exact h1)
    show dv p m (x / p) = 0
    exact dv_zero hp (Int.ediv_nonneg h0 (by omega)) h2
theorem vl_digs {p : Int} : ∀ {m k : Nat} {x : Int}, k < m → vl (digs p m x) k = dv p k x % p
  | m + 1, 0, x, _ => rfl
  | m + 1, k + 1, x, h => by
    show vl (digs p m (x / p)) k = _
    exact vl_digs (by omega)
theorem dv_stay {p : Int} : ∀ (j k : Nat) {x : Int}, dv p k x = 0 → k ≤ j → dv p j x = 0
  | 0, k, x, h, hk => by have : k = 0 := by omega
                         subst this; exact h
  | j + 1, k, x, h, hk => by
    by_cases hkj : k = j + 1
    · subst hkj; exact h
    · rw [dv_succ, dv_stay j k h (by omega)]; simp

/-- From here on the digits are zero. -/
theorem val_stop {p : Int} {m k : Nat} (hk : k ≤ m) {v : FM.V} (hz : ∀ j, k ≤ j → j < m → v j % p = 0) : val p (red p m v) = val p (red p k v) := by
  have h : ∀ n, k + n ≤ m → red p (k + n) v = red p k v ++ List.replicate n 0 := by
    intro n
    induction n with
    | zero => intro _; simp
    | succ n ih =>
      intro hn
      rw [← Nat.add_assoc, red_snoc, ih (by omega), hz (k + n) (by omega) (by omega)]
      simp [List.replicate_succ']
  have := h (m - k) (by omega)
  rw [show k + (m - k) = m by omega] at this
  rw [this, val_append, val_zeros]; simp

theorem val_red_le {p : Nat} (hp : 2 ≤ p) {m k : Nat} (hk : k ≤ m) (hq : (p : Int) ^ m ≤ 256) (v : FM.V) : 0 ≤ val p (red p k v) ∧ val p (red p k v) < 256 := by
  have h := val_range (p := p) (by omega) (red_Dg (by omega) k v)
  rw [red_length] at h
  have := pow_mono (p := p) (by omega) hk
  omega

theorem xor_wrap {a b : Int} (ha : 0 ≤ a ∧ a < 256) (hb : 0 ≤ b ∧ b < 256) : IntKind.i64.wrap ((BitVec.ofInt 64 a ^^^ BitVec.ofInt 64 b).toNat : Nat) = ((a.toNat ^^^ b.toNat : Nat) : Int) := by
  obtain ⟨x, rfl⟩ : ∃ n : Nat, a = n := ⟨a.toNat, by omega⟩
  obtain ⟨y, rfl⟩ : ∃ n : Nat, b = n := ⟨b.toNat, by omega⟩
  have h1 : x ^^^ y < 2 ^ 8 := Nat.xor_lt_two_pow (by omega) (by omega)
  have e : (BitVec.ofInt 64 (x : Int) ^^^ BitVec.ofInt 64 (y : Int)).toNat = x ^^^ y := by
    rw [BitVec.toNat_xor]
    simp [BitVec.toNat_ofNat]
    rw [Nat.mod_eq_of_lt (by omega), Nat.mod_eq_of_lt (by omega)]
  rw [e]
  simp
  exact w64 _ (by omega)

theorem binA_xor (a b : Int) : binA .xor (I a) (I b) = some (I (IntKind.i64.wrap ((BitVec.ofInt 64 a ^^^ BitVec.ofInt 64 b).toNat : Nat))) := by simp [binA]; rfl

/-- The cells of a field, as the reads give them. -/
theorem gf_ld' (D : Ds) (h : Hp) : cellsAt h (.fp (gfC D)) 1 = some [I D.p] := (gf_ld D h).2.2.2.1

set_option maxHeartbeats 2000000 in
theorem s_Add {D : Ds} (r : Fd D) (x y : Int) : Pure prog n_field_GF_Add [.fp (gfC D), I x, I y] (I (D.add x y)) := by
  refine pure_of cf_field_GF_Add rfl fun h => ?_
  have hp2 := r.p2
  have hm8 := r.m8
  have hp256 := r.p256
  have hq := r.pm
  have l0 := gf_ld' D
  simp
  refine (s_in r x).call ?_
  simp
  refine (s_in r y).call ?_
  have hRx := r.toOk.innR x
  have hRy := r.toOk.innR y
  have hadd : D.add x y = val D.p (red D.p D.m (fun j => vl (digs D.p D.m (D.inn x)) j + vl (digs D.p D.m (D.inn y)) j)) := rfl
  rw [hadd]
  clear hadd
  generalize D.inn x = a at *
  generalize D.inn y = b at *
  have ha := hRx
  have hb := hRy
  unfold Ds.R at ha hb
  rw [Ds.qI] at ha hb
  generalize gfC D = C at *
  by_cases h2 : D.p = 2
  · have h2' : (D.p : Int) = 2 := by omega
    have hx : binA .xor (I a) (I b) = some (I ((a.toNat ^^^ b.toNat : Nat) : Int)) := by rw [binA_xor, xor_wrap (by omega) (by omega)]
    have hres : ((a.toNat ^^^ b.toNat : Nat) : Int) = val D.p (red D.p D.m (fun j => vl (digs D.p D.m a) j + vl (digs D.p D.m b) j)) := by
      rw [h2']
      rw [h2'] at ha hb
      have hd := digs_xor D.m a.toNat b.toNat
      have e1 : ((a.toNat : Nat) : Int) = a := by omega
      have e2 : ((b.toNat : Nat) : Int) = b := by omega
      rw [e1, e2] at hd
      rw [← hd]
      have hlt : a.toNat ^^^ b.toNat < 2 ^ D.m := by
        have e3 : ((2 ^ D.m : Nat) : Int) = (2 : Int) ^ D.m := by simp
        exact Nat.xor_lt_two_pow (by omega) (by omega)
      rw [val_digs (by omega) (by omega) (by have e3 : ((2 ^ D.m : Nat) : Int) = (2 : Int) ^ D.m := by simp
                                             omega)]
    simp [isNil, l0, h2', hx]
    rw [hres, h2']
    exact RetP.same
  · have h2' : ¬ (D.p : Int) = 2 := by omega
    simp [isNil, l0, h2', h2]
    obtain ⟨v, hv⟩ : ∃ v : FM.V, v = fun j => vl (digs D.p D.m a) j + vl (digs D.p D.m b) j := ⟨_, rfl⟩
    have hvk : ∀ j, j < D.m → v j = dv D.p j a % D.p + dv D.p j b % D.p := fun j hj => by rw [hv]; simp only; rw [vl_digs hj, vl_digs hj]
    rw [← hv]
    clear hv
    have hpI : (2 : Int) ≤ D.p := by omega
    have hp0 : (D.p : Int) ≠ 0 := by omega
    have hp0' : D.p ≠ 0 := by omega
    refine awp_for D.m (fun k fr' h' => h' = h ∧ fr' 1 = I (dv D.p k a) ∧ fr' 2 = I (dv D.p k b) ∧ fr' 7 = I (val D.p (red D.p k v)) ∧ fr' 8 = I (D.p ^ k)) ⟨rfl, by simp [dv], by simp [dv], by simp [red, val], by simp⟩ ?_
    intro k fr' h' hkn hk ⟨hh, k1, k2, k7, k8⟩
    subst hh
    have k0 := hk 0 (by decide)
    simp at k0
    clear hk
    have ra := dv_range hpI k ha.1
    have rb := dv_range hpI k hb.1
    by_cases c : 0 < dv D.p k a ∨ 0 < dv D.p k b
    · have hlt : k < D.m := by
        apply Classical.byContradiction
        intro hc
        have : k = D.m := by omega
        subst this
        have z1 := dv_zero (p := D.p) (by omega) ha.1 ha.2
        have z2 := dv_zero (p := D.p) (by omega) hb.1 hb.2
        omega
      have hsn : val D.p (red D.p (k + 1) v) = val D.p (red D.p k v) + D.p ^ k * ((dv D.p k a % D.p + dv D.p k b % D.p) % D.p) := by
        rw [red_snoc, val_append, red_length, hvk k hlt]; simp [val]
      have hbd := val_red_le hp2 (show k + 1 ≤ D.m by omega) hq v
      have hbd2 := val_red_le hp2 (show k ≤ D.m by omega) hq v
      have t1 : (dv D.p k a).tmod D.p = dv D.p k a % D.p := Int.tmod_eq_emod_of_nonneg ra.1
      have t2 : (dv D.p k b).tmod D.p = dv D.p k b % D.p := Int.tmod_eq_emod_of_nonneg rb.1
      have t3 : (dv D.p k a).tdiv D.p = dv D.p (k + 1) a := by rw [dv_succ]; exact Int.tdiv_eq_ediv_of_nonneg ra.1
      have t4 : (dv D.p k b).tdiv D.p = dv D.p (k + 1) b := by rw [dv_succ]; exact Int.tdiv_eq_ediv_of_nonneg rb.1
      have ra2 := dv_range hpI (k + 1) ha.1
      have rb2 := dv_range hpI (k + 1) hb.1
      have e1 : 0 ≤ dv D.p k a % D.p ∧ dv D.p k a % D.p < D.p := ⟨Int.emod_nonneg _ hp0, Int.emod_lt_of_pos _ (by omega)⟩
      have e2 : 0 ≤ dv D.p k b % D.p ∧ dv D.p k b % D.p < D.p := ⟨Int.emod_nonneg _ hp0, Int.emod_lt_of_pos _ (by omega)⟩
      have hps : (D.p : Int) ^ (k + 1) = D.p ^ k * D.p := Int.pow_succ ..
      have hple := pow_mono hpI (show k + 1 ≤ D.m by omega)
      have hpp := pow_pos2 hpI (k + 1)
      have hpp2 := pow_pos2 hpI k
      have hple2 := pow_mono hpI (show k ≤ D.m by omega)
      rw [hsn] at hbd ⊢
      generalize dv D.p (k + 1) a = a2 at *
      generalize dv D.p (k + 1) b = b2 at *
      generalize hda : dv D.p k a % D.p = da at *
      generalize hdb : dv D.p k b % D.p = db at *
      generalize dv D.p k a = ak at *
      generalize dv D.p k b = bk at *
      generalize val D.p (red D.p k v) = sk at *
      have u1 : IntKind.i64.wrap (da + db) = da + db := w64 _ (by omega)
      have t5 : (da + db).tmod D.p = (da + db) % D.p := Int.tmod_eq_emod_of_nonneg (by omega)
      generalize (da + db) % (D.p : Int) = dk at *
      have u2 : IntKind.i64.wrap (dk * D.p ^ k) = D.p ^ k * dk := by rw [Int.mul_comm]; exact w64 _ (by omega)
      have u3 : IntKind.i64.wrap (sk + D.p ^ k * dk) = sk + D.p ^ k * dk := w64 _ (by omega)
      have u4 : IntKind.i64.wrap ((D.p : Int) ^ k * D.p) = D.p ^ (k + 1) := by rw [← hps]; exact w64 _ (by omega)
      have u5 : IntKind.i64.wrap a2 = a2 := w64 _ (by omega)
      have u6 : IntKind.i64.wrap b2 = b2 := w64 _ (by omega)
      generalize (D.p : Int) ^ (k + 1) = pk1 at *
      generalize (D.p : Int) ^ k = pk at *
      by_cases c1 : 0 < ak
      · simp [k0, k1, k2, k7, k8, c1, isNil, l0, hp0, hp0', t1, t2, t3, t4, t5, u1, u2, u3, u4, u5, u6]
        exact hlt
      · have c2 : 0 < bk := by omega
        simp [k0, k1, k2, k7, k8, c1, c2, isNil, l0, hp0, hp0', t1, t2, t3, t4, t5, u1, u2, u3, u4, u5, u6]
        exact hlt
    · have z1 : dv D.p k a = 0 := by omega
      have z2 : dv D.p k b = 0 := by omega
      have hst := val_stop (p := D.p) hkn (v := v) fun j hj hjm => by
        rw [hvk j hjm, dv_stay j k z1 hj, dv_stay j k z2 hj]; simp
      simp [k1, k2, k7, z1, z2, hst]
      exact RetP.same
end Go.AM.Ytmihmgnjnedfcaa

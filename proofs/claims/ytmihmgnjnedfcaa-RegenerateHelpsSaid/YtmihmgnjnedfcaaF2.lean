/- Contracts of functions: digits, values, the program's multiplication. -/
import Derived.Test.YtmihmgnjnedfcaaF1
set_option maxRecDepth 100000
set_option linter.unusedSimpArgs false
set_option linter.unusedVariables false
namespace Go.AM.Ytmihmgnjnedfcaa
open Go Go.AM
attribute [local simp ↓] awp_seq awp_reg awp_skip awp_cond awp_block awp_exit awp_ret awp_fz thenW_normal thenW_exit thenW_ret inBlk_normal inBlk_exit inBlk_ret aops_cons aops_nil e_mv e_guard e_pick e_ld e_app e_cpy e_st e_call callW_f updO_some updO_none e_bin e_isnil e_fadr e_iadr e_iarr e_len e_build e_mkf e_nc e_not e_neg e_cvt e_slc e_fld e_ext e_min e_eqs e_new e_box e_mkl e_mks
attribute [local simp] upd_apply ev_t ev_k ev_f binA_add binA_sub binA_mul binA_quo binA_rem binA_eql binA_neq binA_lss binA_leq binA_gtr binA_geq det mem frame0 keeps_nil iadrA_sl fadrA_ref fadrA_fp ldv_agg ldv_one cells_base hset_same hset_hset lenA_fs lenA_sl lenA_nils zeros_ints ints_length one_base one_nilp one_nils one_ref one_sl one_fp one_fs one_fn gl_one resA resOf bound natOf afill splice AV.cells cells_agg bindW_some condW_true condW_false condW_dec condW_ndec guardW_tup guardW_true guardW_true' guardW_false guardW_false' allocW_some pickA_true pickA_false
open Go.FM

def dv (p : Int) : Nat → Int → Int
  | 0, x => x
  | k + 1, x => dv p k (x / p)
theorem dv_succ (p : Int) : ∀ (k : Nat) (x : Int), dv p (k + 1) x = dv p k x / p
  | 0, x => rfl
  | k + 1, x => by
    show dv p (k + 1) (x / p) = dv p k (x / p) / p
    exact dv_succ p k (x / p)
theorem digs_snoc (p : Int) : ∀ (k : Nat) (x : Int), digs p (k + 1) x = digs p k x ++ [dv p k x % p]
  | 0, x => rfl
  | k + 1, x => by
    have := digs_snoc p k (x / p)
    show x % p :: digs p (k + 1) (x / p) = x % p :: digs p k (x / p) ++ [dv p k (x / p) % p]
    rw [this]; rfl
theorem dv_range {p : Int} (hp : 2 ≤ p) : ∀ (k : Nat) {x : Int}, 0 ≤ x → 0 ≤ dv p k x ∧ dv p k x ≤ x
  | 0, x, h => ⟨h, Int.le_refl _⟩
  | k + 1, x, h => by
    have h1 : 0 ≤ x / p := Int.ediv_nonneg h (by omega)
    have h2 : x / p ≤ x := Int.ediv_le_self _ h
    have := dv_range hp k h1
    exact ⟨this.1, by have := this.2; show dv p k (x / p) ≤ x; omega⟩

theorem set_mid {α : Type} {a : List α} {z v : α} {n k : Nat} (ha : a.length = k) (hk : k < n) : (a ++ List.replicate (n - k) z).set k v = (a ++ [v]) ++ List.replicate (n - (k + 1)) z := by
  subst ha
  rw [List.set_append_right _ _ (Nat.le_refl _), Nat.sub_self, show n - a.length = (n - (a.length + 1)) + 1 by omega, List.replicate_succ]
  simp

/-- The digits of x, in a block of their own. -/
theorem w_digitsOf {x p : Int} {m : Nat} (hx : 0 ≤ x ∧ x ≤ 9223372036854775807) (hp : 2 ≤ p) (hm : m ≤ 4294967296) : Pure prog n_field_digitsOf [I x, I p, I m] (.fs m (ints (digs p m x))) := by
  refine pure_of cf_field_digitsOf rfl fun h => ?_
  have hm' : (m : Int) ≤ 4294967296 := by omega
  simp [hm']
  intro b7 hb7
  have hk0 : Kp h (hset h b7 (ints (List.replicate m 0))) := (Kp.refl h).new hb7 _
  refine awp_for m (fun k fr' h' => Kp h h' ∧ h' b7 = some (ints (digs p k x ++ List.replicate (m - k) 0)) ∧ fr' 13 = I k ∧ fr' 0 = I (dv p k x)) ⟨hk0, by simp [hset_same, digs], by simp, by simp [dv]⟩ ?_
  intro k fr' h' hkn hk ⟨hkp, hb, h13, h0⟩
  have k1 := hk 1 (by decide)
  have k7 := hk 7 (by decide)
  have k12 := hk 12 (by decide)
  simp at k1 k7 k12
  clear hk
  by_cases hlt : k < m
  · have hdr := dv_range hp k hx.1
    have hp0 : p ≠ 0 := by omega
    have e1 : (dv p k x).tmod p = dv p k x % p := Int.tmod_eq_emod_of_nonneg hdr.1
    have e2 : (dv p k x).tdiv p = dv p (k + 1) x := by rw [dv_succ]; exact Int.tdiv_eq_ediv_of_nonneg hdr.1
    have hdr2 := dv_range hp (k + 1) hx.1
    have u1 : IntKind.i64.wrap (dv p (k + 1) x) = dv p (k + 1) x := w64 _ (by omega)
    have u2 : IntKind.i64.wrap ((k : Int) + 1) = k + 1 := w64 _ (by omega)
    have st := fun Q => st_ints_at (v := dv p k x % p) (Q := Q) hb (k := k) (by simp [digs_length]; omega)
    rw [set_mid (digs_length p k x) hlt] at st
    simp [h13, h0, k1, k7, k12, hlt, hp0, e1, e2, u1, u2, st]
    exact ⟨hkp.set hb7 _, by rw [digs_snoc]; simp⟩
  · have : k = m := by omega
    subst this
    simp [h13, k7, k12]
    rw [Nat.sub_self, List.replicate_zero, List.append_nil] at hb
    exact ret_blk hb hb7 hkp (by simp [ints_length, digs_length]) rfl

theorem val_drop {p : Int} {l : List Int} {j : Nat} (hj : j < l.length) : val p (l.drop j) = l.getD j 0 + p * val p (l.drop (j + 1)) := by
  rw [List.drop_eq_getElem_cons hj]
  simp [val, List.getD, hj]

theorem Dg_drop {p : Int} {l : List Int} (h : Dg p l) (j : Nat) : Dg p (l.drop j) := fun x hx => h x (List.mem_of_mem_drop hx)
theorem Dg_getD {p : Int} {l : List Int} (h : Dg p l) {j : Nat} (hj : j < l.length) : 0 ≤ l.getD j 0 ∧ l.getD j 0 < p := by
  simp only [List.getD, List.getElem?_eq_getElem hj, Option.getD_some]
  exact h _ (List.getElem_mem hj)

theorem val_le {p : Int} (hp : 2 ≤ p) {l : List Int} (h : Dg p l) (hl : p ^ l.length ≤ 256) (j : Nat) : 0 ≤ val p (l.drop j) ∧ val p (l.drop j) < 256 := by
  have h1 := val_range (by omega) (Dg_drop h j)
  have h2 := pow_mono hp (show (l.drop j).length ≤ l.length by simp)
  omega

theorem s_valueOf {v : AV} {l : List Int} (hv : IL v l) {p : Int} (hp : 2 ≤ p) (hp2 : p ≤ 256) (h : Dg p l) (hl : p ^ l.length ≤ 256) (hll : l.length ≤ 1000) : Pure prog n_field_valueOf [v, I p] (I (val p l)) := by
  refine pure_of cf_field_valueOf rfl fun h' => ?_
  have u0 : IntKind.i64.wrap ((l.length : Int) - 1) = l.length - 1 := w64 _ (by omega)
  simp [hv.len, u0]
  refine awp_for l.length (fun k fr' h2 => h2 = h' ∧ (∃ i : Int, i + k = (l.length : Int) - 1 ∧ fr' 6 = I i) ∧ fr' 5 = I (val p (l.drop (l.length - k)))) ⟨rfl, ⟨_, by simp; rfl, by simp⟩, by simp [val]⟩ ?_
  intro k fr' h2 hkn hk ⟨hh, ⟨i, hi, h6⟩, h5⟩
  subst hh
  have k0 := hk 0 (by decide)
  have k1 := hk 1 (by decide)
  simp at k0 k1
  clear hk
  by_cases hlt : k < l.length
  · have hj : l.length - 1 - k < l.length := by omega
    have c : 0 ≤ i := by omega
    have e0 : i.toNat = l.length - 1 - k := by omega
    have hia := hv.iadr (i := i) ⟨by omega, by omega⟩
    rw [e0] at hia
    have hld := ld_ints (h := h2) hj
    have hg := Dg_getD h hj
    have hvd := val_drop (p := p) hj
    have hv1 := val_le hp h hl (l.length - 1 - k + 1)
    have hv2 := val_le hp h hl (l.length - 1 - k)
    rw [show l.length - k = l.length - 1 - k + 1 by omega] at h5
    rw [show l.length - (k + 1) = l.length - 1 - k by omega, hvd]
    rw [hvd] at hv2
    generalize val p (l.drop (l.length - 1 - k + 1)) = y at *
    generalize l.getD (l.length - 1 - k) 0 = z at *
    have hm1 : 0 ≤ p * y := Int.mul_nonneg (by omega) hv1.1
    have hcm : y * p = p * y := Int.mul_comm _ _
    have u1 : IntKind.i64.wrap (y * p) = y * p := w64 _ (by omega)
    have u2 : IntKind.i64.wrap (y * p + z) = z + p * y := by rw [w64 _ (by omega)]; omega
    have u3 : IntKind.i64.wrap (i - 1) = i - 1 := w64 _ (by omega)
    simp [h6, h5, k0, k1, c, hia, hld, u1, u2, u3, hlt]
    omega
  · have : k = l.length := by omega
    subst this
    have c : ¬ 0 ≤ i := by omega
    simp [h6, h5, c]
    exact RetP.same
end Go.AM.Ytmihmgnjnedfcaa

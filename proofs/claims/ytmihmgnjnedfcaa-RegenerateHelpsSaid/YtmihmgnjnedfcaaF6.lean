/- Contracts of functions: the reference's digits, divides, irreducible. -/
import Derived.Test.YtmihmgnjnedfcaaF5
set_option maxRecDepth 100000
set_option linter.unusedSimpArgs false
set_option linter.unusedVariables false
namespace Go.AM.Ytmihmgnjnedfcaa
open Go Go.AM
attribute [local simp ↓] awp_seq awp_reg awp_skip awp_cond awp_block awp_exit awp_ret awp_fz thenW_normal thenW_exit thenW_ret inBlk_normal inBlk_exit inBlk_ret aops_cons aops_nil e_mv e_guard e_pick e_ld e_app e_cpy e_st e_call callW_f updO_some updO_none e_bin e_isnil e_fadr e_iadr e_iarr e_len e_build e_mkf e_nc e_not e_neg e_cvt e_slc e_fld e_ext e_min e_eqs e_new e_box e_mkl e_mks
attribute [local simp] upd_apply ev_t ev_k ev_f binA_add binA_sub binA_mul binA_quo binA_rem binA_eql binA_neq binA_lss binA_leq binA_gtr binA_geq det mem frame0 keeps_nil iadrA_sl fadrA_ref fadrA_fp ldv_agg ldv_one cells_base hset_same hset_hset lenA_fs lenA_sl lenA_nils zeros_ints ints_length one_base one_nilp one_nils one_ref one_sl one_fp one_fs one_fn gl_one resA resOf bound natOf afill splice AV.cells cells_agg bindW_some condW_true condW_false condW_dec condW_ndec guardW_tup guardW_true guardW_true' guardW_false guardW_false' allocW_some pickA_true pickA_false
open Go.FM

/-- The digits of x. -/
theorem s_digits {x p : Int} {m : Nat} (hx : 0 ≤ x ∧ x ≤ 9223372036854775807) (hp : 2 ≤ p) (hm : m ≤ 4294967296) : Pure prog n_ref04_digits [I x, I p, I m] (.fs m (ints (digs p m x))) := by
  refine pure_of cf_ref04_digits rfl fun h => ?_
  have hm' : (m : Int) ≤ 4294967296 := by omega
  simp [hm']
  intro b7 hb7
  have hk0 : Kp h (hset h b7 (ints (List.replicate m 0))) := (Kp.refl h).new hb7 _
  refine awp_for m (fun k fr' h' => Kp h h' ∧ h' b7 = some (ints (digs p k x ++ List.replicate (m - k) 0)) ∧ fr' 8 = I k ∧ fr' 0 = I (dv p k x)) ⟨hk0, by simp [hset_same, digs], by simp, by simp [dv]⟩ ?_
  intro k fr' h' hkn hk ⟨hkp, hb, h13, h0⟩
  have k1 := hk 1 (by decide)
  have k2 := hk 2 (by decide)
  have k7 := hk 7 (by decide)
  simp at k1 k2 k7
  clear hk
  by_cases hlt : k < m
  · have hdr := dv_range hp k hx.1
    have hp0 : p ≠ 0 := by omega
    have e1 : (dv p k x).tmod p = dv p k x % p := Int.tmod_eq_emod_of_nonneg hdr.1
    have e2 : (dv p k x).tdiv p = dv p (k + 1) x := by rw [dv_succ]; exact Int.tdiv_eq_ediv_of_nonneg hdr.1
    have hdr2 := dv_range hp (k + 1) hx.1
    have u1 : IntKind.i64.wrap (dv p (k + 1) x) = dv p (k + 1) x := w64 _ (by omega)
    have u2 : IntKind.i64.wrap ((k : Int) + 1) = k + 1 := w64 _ (by omega)
    have st := fun Q => st_ints_at (v := dv p k x % p) (Q := Q) hb (k := k) (by simp [digs_length]; omega)
    rw [set_mid (digs_length p k x) hlt] at st
    simp [h13, h0, k1, k2, k7, hlt, hp0, e1, e2, u1, u2, st]
    exact ⟨hkp.set hb7 _, by rw [digs_snoc]; simp⟩
  · have : k = m := by omega
    subst this
    simp [h13, k2, k7]
    rw [Nat.sub_self, List.replicate_zero, List.append_nil] at hb
    exact ret_blk hb hb7 hkp (by simp [ints_length, digs_length]) rfl

/-- The rest behind k rounds. -/
def rk (p : Int) (low mo : List Int) : Nat → FM.V
  | 0 => vl (mo ++ [1])
  | k + 1 => dstep p low (mo.length - k) (rk p low mo k)

theorem drun_rk {p : Int} {low mo : List Int} (hd : low.length ≤ mo.length) : ∀ k, k ≤ mo.length + 1 - low.length → drun p low (mo.length + 1 - low.length) (vl (mo ++ [1])) = drun p low (mo.length + 1 - low.length - k) (rk p low mo k)
  | 0, _ => rfl
  | k + 1, hk => by
    rw [drun_rk hd k (by omega)]
    obtain ⟨c, hc⟩ : ∃ c, mo.length + 1 - low.length - k = c + 1 := ⟨mo.length + 1 - low.length - k - 1, by omega⟩
    rw [hc, show mo.length + 1 - low.length - (k + 1) = c by omega]
    simp only [drun, rk]
    rw [show low.length + c = mo.length - k by omega]

theorem vl_getD (l : List Int) (j : Nat) : vl l j = l.getD j 0 := rfl

theorem Dg_append {p : Int} {a b : List Int} (h : Dg p a) (h' : Dg p b) : Dg p (a ++ b) := fun x hx => (List.mem_append.1 hx).elim (h x) (h' x)
theorem Dg_set {p : Int} {l : List Int} (h : Dg p l) {v : Int} (hv : 0 ≤ v ∧ v < p) (k : Nat) : Dg p (l.set k v) := fun y hy => by
  rcases List.mem_or_eq_of_mem_set hy with h1 | rfl
  · exact h y h1
  · exact hv

open Classical in
set_option maxHeartbeats 4000000 in
theorem s_divides {v w : AV} {low mo : List Int} (hv : IL v low) (hw : IL w mo) {p : Nat} (hp : 2 ≤ p) (hp2 : p ≤ 256) (hlow : Dg p low) (hmo : Dg p mo) (h1 : 1 ≤ low.length) (h2 : low.length ≤ mo.length) (h3 : mo.length ≤ 8) :
    Pure prog n_ref04_divides [v, w, I p] (B (decide (Dv p low mo))) := by
  refine pure_of cf_ref04_divides rfl fun h => ?_
  simp [hv.len]
  intro b15 hb15
  refine app_empty (hset_same ..) hw (by omega) fun bm hbm => ?_
  have hgm : h bm = none := by
    rcases hbm with rfl | hbm
    · exact hb15
    · by_cases e : bm = b15
      · rw [e]; exact hb15
      · rwa [hset_ne _ _ e] at hbm
  have ho : Own 1 h (hset (hset h b15 []) bm (ints mo)) (.sl bm 0 mo.length 1) mo.length (ints mo) :=
    ⟨((Kp.refl h).new hb15 _).set hgm _, by simp [ints], .inr ⟨by omega, bm, rfl, hset_same .., hgm⟩⟩
  generalize hset (hset h b15 []) bm (ints mo) = g at *
  intro b19 hb19
  refine ho.app1 (m := 1) hb19 (by simp) (by omega) fun v8 g2 o2 => ?_
  have hc : ∃ c, v8 = .sl c 0 (mo.length + 1) 1 ∧ g2 c = some (ints (mo ++ [1])) ∧ h c = none ∧ Kp h g2 := by
    obtain ⟨q1, q2, q3⟩ := o2
    rcases q3 with ⟨q4, _⟩ | ⟨_, c, q5, q6, q7⟩
    · omega
    · exact ⟨c, q5, by rw [ints_append]; exact q6, q7, q1⟩
  obtain ⟨c, rfl, hg2, hc0, hk2⟩ := hc
  clear ho o2 hb19 hbm hb15 hgm
  have u0 : IntKind.i64.wrap ((mo.length : Int) + 1 - 1) = mo.length := by rw [w64 _ (by omega)]; omega
  have u0b : IntKind.i64.wrap (mo.length : Int) = mo.length := w64 _ (by omega)
  simp [u0]
  refine awp_for (mo.length + 1 - low.length) (fun k fr' h' => Kp h h' ∧ (∃ l, h' c = some (ints l) ∧ l.length = mo.length + 1 ∧ Dg p l ∧ ∀ j, vl l j = rk p low mo k j) ∧ (∃ i : Int, i + k = mo.length ∧ fr' 9 = I i))
    ⟨hk2, ⟨mo ++ [1], hg2, by simp, Dg_append hmo (by intro x hx; simp at hx; omega), fun j => rfl⟩, ⟨(mo.length : Int), by simp, by simp [u0, u0b]⟩⟩ ?_
  intro k fr' h' hkn hk ⟨hkp, ⟨l, hl, hll, hld, hlv⟩, ⟨i, hi, k9⟩⟩
  have k0 := hk 0 (by decide)
  have k2 := hk 2 (by decide)
  have k7 := hk 7 (by decide)
  have k8 := hk 8 (by decide)
  simp at k0 k2 k7 k8
  clear hk
  by_cases hlt : k < mo.length + 1 - low.length
  · obtain ⟨ii, rfl⟩ : ∃ n : Nat, i = n := ⟨i.toNat, by omega⟩
    have hii : ii = mo.length - k := by omega
    have cc : (low.length : Int) ≤ ii := by omega
    have cc2 : low.length ≤ ii := by omega
    have hldi := ld_ints_at hl (k := ii) (by omega)
    have hci := Dg_getD hld (j := ii) (by omega)
    have hrc : l.getD ii 0 = rk p low mo k ii := hlv ii
    have c9 : (ii : Int) < mo.length + 1 := by omega
    have c9' : ii < mo.length + 1 := by omega
    generalize hcv : l.getD ii 0 = cv at *
    simp [k9, k7, k8, cc, cc2, c9, c9', hldi]
    refine awp_for low.length (fun j fr2 h2 => Kp h h2 ∧ (∃ l2, h2 c = some (ints l2) ∧ l2.length = mo.length + 1 ∧ Dg p l2 ∧ ∀ t, vl l2 t = if ii - low.length ≤ t ∧ t < ii - low.length + j then (vl l t + (p - cv) * vl low (t - (ii - low.length))) % p else vl l t) ∧ fr2 11 = I j)
      ⟨hkp, ⟨l, hl, hll, hld, fun t => by rw [if_neg (by omega)]⟩, by simp⟩ ?_
    intro j fr2 h2 hjn hk2 ⟨hkp2, ⟨l2, hl2, hll2, hld2, hlv2⟩, k11⟩
    have m0 := hk2 0 (by decide)
    have m2 := hk2 2 (by decide)
    have m7 := hk2 7 (by decide)
    have m8 := hk2 8 (by decide)
    have m9 := hk2 9 (by decide)
    have m10 := hk2 10 (by decide)
    simp [k0, k2, k7, k8, k9] at m0 m2 m7 m8 m9 m10
    clear hk2
    have u1 : IntKind.i64.wrap ((ii : Int) - low.length) = ii - low.length := w64 _ (by omega)
    by_cases hj : j < low.length
    · have u2 : IntKind.i64.wrap ((ii : Int) - low.length + j) = ((ii - low.length + j : Nat) : Int) := by rw [w64 _ (by omega)]; omega
      have u3 : IntKind.i64.wrap ((p : Int) - cv) = p - cv := w64 _ (by omega)
      have hldt := ld_ints_at hl2 (k := ii - low.length + j) (by omega)
      have hia := hv.iadr (i := j) ⟨by omega, by omega⟩
      simp at hia
      have hldl := fun h' => ld_ints (h := h') hj
      have r1 := Dg_getD hld2 (j := ii - low.length + j) (by omega)
      have r2 := Dg_getD hlow hj
      have e1 : l2.getD (ii - low.length + j) 0 = l.getD (ii - low.length + j) 0 := by
        have := hlv2 (ii - low.length + j)
        rw [if_neg (by omega)] at this
        exact this
      have hst := fun Q v => st_ints_at (v := v) (Q := Q) hl2 (k := ii - low.length + j) (by omega)
      have e2 : low.getD j 0 = vl low j := rfl
      generalize l2.getD (ii - low.length + j) 0 = s at *
      generalize hlj : low.getD j 0 = lj at *
      have b1 : 0 ≤ ((p : Int) - cv) * lj := Int.mul_nonneg (by omega) r2.1
      have b2 : ((p : Int) - cv) * lj ≤ 256 * 256 := Int.mul_le_mul (by omega) (by omega) r2.1 (by omega)
      have u4 : IntKind.i64.wrap (((p : Int) - cv) * lj) = ((p : Int) - cv) * lj := w64 _ (by omega)
      have u5 : IntKind.i64.wrap (s + ((p : Int) - cv) * lj) = s + ((p : Int) - cv) * lj := w64 _ (by omega)
      have u6 : (s + ((p : Int) - cv) * lj).tmod p = (s + ((p : Int) - cv) * lj) % p := Int.tmod_eq_emod_of_nonneg (by omega)
      have u7 : IntKind.i64.wrap ((j : Int) + 1) = j + 1 := w64 _ (by omega)
      have hp0 : (p : Int) ≠ 0 := by omega
      have hp0' : p ≠ 0 := by omega
      have c10 : ((ii - low.length + j : Nat) : Int) < mo.length + 1 := by omega
      have c11 : ii - low.length + j < mo.length + 1 := by omega
      have c12 : (0 : Int) ≤ ((ii - low.length + j : Nat) : Int) := by omega
      have hrm : 0 ≤ (s + ((p : Int) - cv) * lj) % p ∧ (s + ((p : Int) - cv) * lj) % p < p := ⟨Int.emod_nonneg _ hp0, Int.emod_lt_of_pos _ (by omega)⟩
      generalize hnv : (s + ((p : Int) - cv) * lj) % p = nv at *
      have hres : Kp h (hset h2 c (ints (l2.set (ii - low.length + j) nv))) ∧ ∃ l3, (hset h2 c (ints (l2.set (ii - low.length + j) nv))) c = some (ints l3) ∧ l3.length = mo.length + 1 ∧ Dg p l3 ∧ ∀ t, vl l3 t = if ii - low.length ≤ t ∧ t < ii - low.length + (j + 1) then (vl l t + (p - cv) * vl low (t - (ii - low.length))) % p else vl l t := by
        refine ⟨hkp2.set hc0 _, _, hset_same .., by simp [hll2], Dg_set hld2 hrm _, fun t => ?_⟩
        rw [vl_set l2 nv t (by omega)]
        by_cases ht : t = ii - low.length + j
        · subst ht
          rw [if_pos rfl, if_pos (by omega), ← hnv, show ii - low.length + j - (ii - low.length) = j by omega, ← e2, vl_getD, ← e1]
        · rw [if_neg ht, hlv2 t]
          by_cases ht2 : ii - low.length ≤ t ∧ t < ii - low.length + j
          · rw [if_pos ht2, if_pos (by omega)]
          · rw [if_neg ht2, if_neg (by omega)]
      generalize ii - low.length + j = at1 at *
      simp [m0, m2, m7, m8, m9, m10, k11, hj, u1, u2, u3, u4, u5, u6, u7, hldt, hia, hldl, hst, hp0, hp0', c10, c11, c12]
      simpa using hres
    · have : j = low.length := by omega
      subst this
      have hst := fun Q => st_ints_at (v := 0) (Q := Q) hl2 (k := ii) (by omega)
      have u7 : IntKind.i64.wrap ((ii : Int) - 1) = ii - 1 := w64 _ (by omega)
      simp [m7, m8, m9, k11, hst, c9, c9', u7, hlt]
      refine ⟨hkp2.set hc0 _, ⟨l2.set ii 0, by simp [hset_same], by simp [hll2], Dg_set hld2 (by omega) _, fun t => ?_⟩, by omega⟩
      rw [vl_set l2 0 t (by omega)]
      simp only [rk, dstep]
      rw [← hii]
      by_cases ht : t = ii
      · rw [if_pos ht, if_pos ht]
      · rw [if_neg ht, if_neg ht, hlv2 t, ← hlv ii, ← hlv t]
        by_cases ht2 : ii - low.length ≤ t ∧ t < ii
        · rw [if_pos (by omega), if_pos ht2, vl_getD l ii, hcv]
        · rw [if_neg (by omega), if_neg ht2]
  · have hke : k = mo.length + 1 - low.length := by omega
    have cc : ¬ (low.length : Int) ≤ i := by omega
    have hrun := drun_rk (p := p) h2 k (by omega)
    rw [hke, Nat.sub_self] at hrun
    rw [← hke] at hrun
    simp only [drun] at hrun
    have hDv : Dv p low mo ↔ ∀ j, j < mo.length + 1 → l.getD j 0 = 0 := by
      unfold Dv
      rw [← hke, hrun]
      constructor
      · intro hh j _; rw [← vl_getD, hlv]; exact hh j
      · intro hh j
        rw [← hlv]
        by_cases hj : j < mo.length + 1
        · exact hh j hj
        · simp only [vl, List.getD]; rw [List.getElem?_eq_none (by omega)]; rfl
    simp [k9, k7, cc]
    refine awp_for (mo.length + 1) (fun j fr2 h2 => h2 = h' ∧ fr2 12 = I j ∧ ∀ t, t < j → l.getD t 0 = 0) ⟨rfl, by simp, fun t ht => by omega⟩ ?_
    intro j fr2 h2 hjn hk2 ⟨hh, k12, hz⟩
    subst hh
    have m8 := hk2 8 (by decide)
    simp [k8] at m8
    clear hk2
    by_cases hj : j < mo.length + 1
    · have hj' : (j : Int) < mo.length + 1 := by omega
      have hldj := ld_ints_at hl (k := j) (by omega)
      have u7 : IntKind.i64.wrap ((j : Int) + 1) = j + 1 := w64 _ (by omega)
      by_cases hz2 : l.getD j 0 = 0
      · rw [hz2] at hldj
        simp [m8, k12, hj, hj', hldj, u7, -List.getD_eq_getElem?_getD]
        intro t ht
        by_cases htj : t = j
        · subst htj; exact hz2
        · exact hz t (by omega)
      · generalize hlj : l.getD j 0 = y at *
        simp [m8, k12, hj, hj', hldj, hz2]
        rw [show decide (Dv p low mo) = false from decide_eq_false fun hd => hz2 (by rw [← hlj]; exact hDv.1 hd j hj)]
        exact ⟨_, hkp.sub, .id _, rfl⟩
    · have hj' : ¬ (j : Int) < mo.length + 1 := by omega
      simp [m8, k12, hj']
      rw [show decide (Dv p low mo) = true from decide_eq_true (hDv.2 fun t ht => hz t (by omega))]
      exact ⟨_, hkp.sub, .id _, rfl⟩
end Go.AM.Ytmihmgnjnedfcaa

/- Contracts of functions: the reference's lists of nodes. -/
import Derived.Test.YtmihmgnjnedfcaaS1
set_option maxRecDepth 100000
set_option linter.unusedSimpArgs false
set_option linter.unusedVariables false
namespace Go.AM.Ytmihmgnjnedfcaa
open Go Go.AM
attribute [local simp ↓] awp_seq awp_reg awp_skip awp_cond awp_block awp_exit awp_ret awp_fz thenW_normal thenW_exit thenW_ret inBlk_normal inBlk_exit inBlk_ret aops_cons aops_nil e_mv e_guard e_pick e_ld e_app e_cpy e_st e_call callW_f updO_some updO_none e_bin e_isnil e_fadr e_iadr e_iarr e_len e_build e_mkf e_nc e_not e_neg e_cvt e_slc e_fld e_ext e_min e_eqs e_new e_box e_mkl e_mks
attribute [local simp] upd_apply ev_t ev_k ev_f binA_add binA_sub binA_mul binA_quo binA_rem binA_eql binA_neq binA_lss binA_leq binA_gtr binA_geq det mem frame0 keeps_nil iadrA_sl fadrA_ref fadrA_fp ldv_agg ldv_one cells_base hset_same hset_hset lenA_fs lenA_sl lenA_nils zeros_ints ints_length one_base one_nilp one_nils one_ref one_sl one_fp one_fs one_fn gl_one resA resOf bound natOf afill splice AV.cells cells_agg bindW_some condW_true condW_false condW_dec condW_ndec guardW_tup guardW_true guardW_true' guardW_false guardW_false' allocW_some pickA_true pickA_false
theorem s_list {v : AV} {l : List Int} (hv : IL v l) (hl : l.length < 4611686018427387904) (n but : Int) : Pure prog n_ref52_list [I n, v, I but] (I (nodesE l l.length n but)) := by
  refine pure_of cf_ref52_list rfl fun h => ?_
  simp
  refine awp_for l.length (fun k fr' h' => h' = h ∧ fr' 7 = I k ∧ inR (l.take k) n but = true) ⟨rfl, by simp, by simp [inR]⟩ ?_
  intro k fr' h' hkn hk ⟨hh, h7, hx⟩
  subst hh
  have k0 := hk 0 (by decide)
  have k1 := hk 1 (by decide)
  have k2 := hk 2 (by decide)
  simp at k0 k1 k2
  clear hk
  by_cases hlt : k < l.length
  · have bad : (l[k] < 0 ∨ n ≤ l[k] ∨ l[k] = but) → RetP h' (I (nodesE l l.length n but)) (I 6) h' := by
      intro hb
      rw [show nodesE l l.length n but = 6 by simp [nodesE, not_inR hlt hb]]
      exact RetP.same
    have good := inR_succ hlt hx
    have hg : l.getD k 0 = l[k] := by simp [List.getD, hlt]
    have hld := ld_ints (h := h') hlt
    rw [hg] at hld
    have hia := hv.iadr (i := k) ⟨by omega, by omega⟩
    simp at hia
    generalize l[k] = y at *
    by_cases c1 : y < 0
    · simp (disch := omega) [h7, k0, k1, k2, hlt, hv.len, hia, hld, w64, c1]
      exact bad (.inl c1)
    by_cases c2 : n ≤ y
    · simp (disch := omega) [h7, k0, k1, k2, hlt, hv.len, hia, hld, w64, c1, c2]
      exact bad (.inr (.inl c2))
    by_cases c3 : y = but
    · subst c3
      simp (disch := omega) [h7, k0, k1, k2, hlt, hv.len, hia, hld, w64, c1, c2]
      exact bad (.inr (.inr rfl))
    simp (disch := omega) [h7, k0, k1, k2, hlt, hv.len, hia, hld, w64, c1, c2, c3]
    exact good (by omega) (by omega) c3
  · simp [h7, k1, hlt, hv.len]
    have : k = l.length := by omega
    subst this
    rw [List.take_length] at hx
    refine awp_for l.length (fun k fr' h'' => h'' = h' ∧ fr' 8 = I k ∧ (l.take k).Nodup) ⟨rfl, by simp, by simp⟩ ?_
    intro k fr2 h2 hkn hk ⟨hh, h8, hd⟩
    subst hh
    have l1 := hk 1 (by decide)
    simp [k1] at l1
    clear hk
    by_cases hlt : k < l.length
    · simp (disch := omega) [h8, l1, hlt, hv.len]
      refine awp_for k (fun j fr' h'' => h'' = h2 ∧ fr' 9 = I j ∧ l[k] ∉ l.take j) ⟨rfl, by simp, by simp⟩ ?_
      intro j fr3 h3 hjk hk ⟨hh, h9, hm⟩
      subst hh
      have m1 := hk 1 (by decide)
      have m8 := hk 8 (by decide)
      simp [l1, h8] at m1 m8
      clear hk
      by_cases hj : j < k
      · have hjl : j < l.length := by omega
        simp (disch := omega) [h9, m1, m8, hj, hv.iadr, ld_ints, w64, hlt, hjl]
        split
        · rename_i he
          rw [show nodesE l l.length n but = 18 by
            have : ¬ l.Nodup := not_nodup_of hlt (by rw [he]; exact List.mem_iff_getElem.2 ⟨j, by simp; omega, by simp⟩)
            simp [nodesE, hx, this]]
          exact RetP.same
        · rename_i he
          exact not_mem_take_succ hjl hm he
      · have : j = k := by omega
        subst this
        simp (disch := omega) [h9, m8, w64, hlt]
        exact nodup_take_succ hlt hd hm
    · simp (disch := omega) [h8, l1, hlt, hv.len]
      have : k = l.length := by omega
      subst this
      rw [List.take_length] at hd
      rw [show nodesE l l.length n but = 0 by simp [nodesE, hx, hd]]
      exact RetP.same
end Go.AM.Ytmihmgnjnedfcaa

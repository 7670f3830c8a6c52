/- Contracts of functions: lists. -/
import Derived.Test.YtmihmgnjnedfcaaC1
import Derived.Test.YtmihmgnjnedfcaaAMP
set_option maxRecDepth 100000
set_option linter.unusedSimpArgs false
set_option linter.unusedVariables false
namespace Go.AM.Ytmihmgnjnedfcaa
open Go Go.AM
attribute [local simp ↓] awp_seq awp_reg awp_skip awp_cond awp_block awp_exit awp_ret awp_fz thenW_normal thenW_exit thenW_ret inBlk_normal inBlk_exit inBlk_ret aops_cons aops_nil e_mv e_guard e_pick e_ld e_app e_cpy e_st e_call callW_f updO_some updO_none e_bin e_isnil e_fadr e_iadr e_iarr e_len e_build e_mkf e_nc e_not e_neg e_cvt e_slc e_fld e_ext e_min e_eqs e_new e_box e_mkl e_mks
attribute [local simp] upd_apply ev_t ev_k ev_f binA_add binA_sub binA_mul binA_quo binA_rem binA_eql binA_neq binA_lss binA_leq binA_gtr binA_geq det mem frame0 keeps_nil iadrA_sl fadrA_ref fadrA_fp ldv_agg ldv_one cells_base hset_same hset_hset lenA_fs lenA_sl lenA_nils zeros_ints ints_length one_base one_nilp one_nils one_ref one_sl one_fp one_fs one_fn gl_one resA resOf bound natOf afill splice AV.cells cells_agg bindW_some condW_true condW_false condW_dec condW_ndec guardW_tup guardW_true guardW_true' guardW_false guardW_false' allocW_some pickA_true pickA_false
/-- Where a number stands first. -/
def ixOf (l : List Int) (x : Int) : Int := if x ∈ l then (l.idxOf x : Int) else -1

theorem not_mem_take_succ {l : List Int} {x : Int} {k : Nat} (hk : k < l.length) (h : x ∉ l.take k) (hx : x ≠ l[k]) : x ∉ l.take (k + 1) := by
  rw [List.take_succ_eq_append_getElem hk, List.mem_append, List.mem_singleton]
  exact fun h' => h'.elim h hx

theorem idxOf_of {l : List Int} {x : Int} {k : Nat} (hk : k < l.length) (h : x ∉ l.take k) (hx : x = l[k]) : ixOf l x = k := by
  have hm : x ∈ l := by rw [hx]; exact List.getElem_mem hk
  unfold ixOf
  rw [if_pos hm]
  have : l.idxOf x = k := by
    have e : l = l.take k ++ l.drop k := (List.take_append_drop k l).symm
    rw [e, List.idxOf_append, if_neg h, List.drop_eq_getElem_cons hk, ← hx, List.idxOf_cons_self]
    simp; omega
  rw [this]

theorem s_Index {v : AV} {l : List Int} (hv : IL v l) (hl : l.length < 4611686018427387904) (x : Int) : Pure prog n_slices_Index_int_int [v, I x] (I (ixOf l x)) := by
  refine pure_of cf_slices_Index_int_int rfl fun h => ?_
  simp [hv.len]
  refine awp_for l.length (fun k fr' h' => h' = h ∧ fr' 8 = I k ∧ x ∉ l.take k) ⟨rfl, by simp, by simp⟩ ?_
  intro k fr' h' hkn hk ⟨hh, h8, hx⟩
  subst hh
  have k0 := hk 0 (by decide)
  have k1 := hk 1 (by decide)
  have k7 := hk 7 (by decide)
  simp at k0 k1 k7
  clear hk
  by_cases hlt : k < l.length
  · simp (disch := omega) [h8, k7, k0, k1, hlt, hv.iadr, ld_ints, w64]
    split
    · rename_i hxe
      rw [idxOf_of hlt hx hxe]
      exact RetP.same
    · rename_i hxe
      exact not_mem_take_succ hlt hx hxe
  · simp [h8, k7, hlt]
    have : k = l.length := by omega
    subst this
    rw [List.take_length] at hx
    rw [show ixOf l x = -1 by simp [ixOf, hx]]
    exact RetP.same

theorem s_Contains {v : AV} {l : List Int} (hv : IL v l) (hl : l.length < 4611686018427387904) (x : Int) : Pure prog n_slices_Contains_int_int [v, I x] (B (decide (x ∈ l))) := by
  refine pure_of cf_slices_Contains_int_int rfl fun h => ?_
  simp
  refine (s_Index hv hl x).call ?_
  simp
  have : decide (0 ≤ ixOf l x) = decide (x ∈ l) := by
    unfold ixOf
    by_cases hx : x ∈ l
    · simp [hx]
    · simp [hx]
  rw [this]
  exact RetP.same

theorem nodup_take_succ {l : List Int} {k : Nat} (hk : k < l.length) (h : (l.take k).Nodup) (hx : l[k] ∉ l.take k) : (l.take (k + 1)).Nodup := by
  rw [List.take_succ_eq_append_getElem hk, List.nodup_append]
  refine ⟨h, by simp, fun a ha b hb => ?_⟩
  rw [List.mem_singleton] at hb
  intro he
  rw [hb] at he
  exact hx (he ▸ ha)

theorem not_nodup_of {l : List Int} {k : Nat} (hk : k < l.length) (hx : l[k] ∈ l.take k) : ¬ l.Nodup := by
  intro h
  obtain ⟨j, hj, he⟩ := List.mem_iff_getElem.1 hx
  rw [List.length_take] at hj
  rw [List.getElem_take] at he
  have := (List.nodup_iff_pairwise_ne.1 h)
  rw [List.pairwise_iff_getElem] at this
  exact this j k (by omega) hk (by omega) he

theorem s_twice {v : AV} {l : List Int} (hv : IL v l) (hl : l.length < 4611686018427387904) : Pure prog n_regenerate_twice [v] (B (!decide l.Nodup)) := by
  refine pure_of cf_regenerate_twice rfl fun h => ?_
  simp [hv.len]
  refine awp_for l.length (fun k fr' h' => h' = h ∧ fr' 7 = I k ∧ (l.take k).Nodup) ⟨rfl, by simp, by simp⟩ ?_
  intro k fr' h' hkn hk ⟨hh, h7, hx⟩
  subst hh
  have k0 := hk 0 (by decide)
  have k5 := hk 5 (by decide)
  have k6 := hk 6 (by decide)
  simp at k0 k5 k6
  clear hk
  by_cases hlt : k < l.length
  · simp (disch := omega) [h7, k0, k5, k6, hlt, hv.iadr, ld_ints, w64, hv.len, hv.slcN]
    refine (s_Contains (hv.slv (Nat.zero_le k) hkn) (by simp; omega) l[k]).call ?_
    simp (disch := omega) [h7, w64, hlt]
    split
    · rename_i hm
      rw [show (!decide l.Nodup) = true by simpa using not_nodup_of hlt (by simpa using hm)]
      exact RetP.same
    · rename_i hm
      exact nodup_take_succ hlt hx (by simpa using hm)
  · simp [h7, k6, hlt]
    have : k = l.length := by omega
    subst this
    rw [List.take_length] at hx
    rw [show (!decide l.Nodup) = false by simpa using hx]
    exact RetP.same

/-- Whether all are below n and none is but. -/
def inR (l : List Int) (n but : Int) : Bool := l.all fun i => decide (0 ≤ i) && decide (i < n) && decide (i ≠ but)

def nodesE (l : List Int) (many n but : Int) : Int := if (l.length : Int) ≠ many then 3 else if inR l n but = true then (if l.Nodup then 0 else 18) else 6

theorem inR_succ {l : List Int} {n but : Int} {k : Nat} (hlt : k < l.length) (hx : inR (l.take k) n but = true) (h1 : 0 ≤ l[k]) (h2 : l[k] < n) (h3 : l[k] ≠ but) : inR (l.take (k + 1)) n but = true := by
  unfold inR at hx ⊢
  rw [List.take_succ_eq_append_getElem hlt, List.all_append, hx]
  simp [h1, h2, h3]

theorem not_inR {l : List Int} {n but : Int} {k : Nat} (hlt : k < l.length) (hb : l[k] < 0 ∨ n ≤ l[k] ∨ l[k] = but) : ¬ inR l n but = true := by
  intro hr
  have := List.all_eq_true.1 hr l[k] (List.getElem_mem hlt)
  simp at this
  omega

theorem s_nodes {v : AV} {l : List Int} (hv : IL v l) (hl : l.length < 4611686018427387904) (many n but : Int) : Pure prog n_regenerate_nodes [v, I many, I n, I but] (I (nodesE l many n but)) := by
  refine pure_of cf_regenerate_nodes rfl fun h => ?_
  by_cases hm : (l.length : Int) = many
  case neg =>
    simp [hv.len, hm]
    rw [show nodesE l many n but = 3 by simp [nodesE, hm]]
    exact RetP.same
  subst hm
  simp [hv.len]
  refine awp_for l.length (fun k fr' h' => h' = h ∧ fr' 17 = I k ∧ inR (l.take k) n but = true) ⟨rfl, by simp, by simp [inR]⟩ ?_
  intro k fr' h' hkn hk ⟨hh, h17, hx⟩
  subst hh
  have k0 := hk 0 (by decide)
  have k2 := hk 2 (by decide)
  have k3 := hk 3 (by decide)
  have k15 := hk 15 (by decide)
  have k16 := hk 16 (by decide)
  simp at k0 k2 k3 k15 k16
  clear hk
  by_cases hlt : k < l.length
  · have bad : (l[k] < 0 ∨ n ≤ l[k] ∨ l[k] = but) → RetP h' (I (nodesE l l.length n but)) (I 6) h' := by
      intro hb
      rw [show nodesE l l.length n but = 6 by simp [nodesE, not_inR hlt hb]]
      exact RetP.same
    have good := inR_succ hlt hx
    have hg : l.getD k 0 = l[k] := by simp [List.getD, hlt]
    have hld := ld_ints (h := h') hlt
    rw [hg] at hld
    have hia := hv.iadr (i := k) ⟨by omega, by omega⟩
    simp at hia
    generalize l[k] = y at *
    by_cases c1 : y < 0
    · simp (disch := omega) [h17, k0, k2, k3, k15, k16, hlt, hia, hld, w64, c1]
      exact bad (.inl c1)
    by_cases c2 : n ≤ y
    · simp (disch := omega) [h17, k0, k2, k3, k15, k16, hlt, hia, hld, w64, c1, c2]
      exact bad (.inr (.inl c2))
    by_cases c3 : y = but
    · subst c3
      simp (disch := omega) [h17, k0, k2, k3, k15, k16, hlt, hia, hld, w64, c1, c2]
      exact bad (.inr (.inr rfl))
    simp (disch := omega) [h17, k0, k2, k3, k15, k16, hlt, hia, hld, w64, c1, c2, c3]
    exact good (by omega) (by omega) c3
  · simp [h17, k16, hlt, k0]
    have : k = l.length := by omega
    subst this
    rw [List.take_length] at hx
    refine (s_twice hv hl).call ?_
    by_cases hd : l.Nodup
    · simp [hd]
      rw [show nodesE l l.length n but = 0 by simp [nodesE, hx, hd]]
      exact RetP.same
    · simp [hd]
      rw [show nodesE l l.length n but = 18 by simp [nodesE, hx, hd]]
      exact RetP.same
end Go.AM.Ytmihmgnjnedfcaa

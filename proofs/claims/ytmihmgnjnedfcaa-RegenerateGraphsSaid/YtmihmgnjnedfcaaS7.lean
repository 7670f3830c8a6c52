/- Contracts of functions: Same of equal networks, and the law of the graphs. -/
import Derived.Test.YtmihmgnjnedfcaaS6
set_option maxRecDepth 100000
set_option linter.unusedSimpArgs false
set_option linter.unusedVariables false
namespace Go.AM.Ytmihmgnjnedfcaa
open Go Go.AM
attribute [local simp ↓] awp_seq awp_reg awp_skip awp_cond awp_block awp_exit awp_ret awp_fz thenW_normal thenW_exit thenW_ret inBlk_normal inBlk_exit inBlk_ret aops_cons aops_nil e_mv e_guard e_pick e_ld e_app e_cpy e_st e_call callW_f updO_some updO_none e_bin e_isnil e_fadr e_iadr e_iarr e_len e_build e_mkf e_nc e_not e_neg e_cvt e_slc e_fld e_ext e_min e_eqs e_new e_box e_mkl e_mks
attribute [local simp] upd_apply ev_t ev_k ev_f binA_add binA_sub binA_mul binA_quo binA_rem binA_eql binA_neq binA_lss binA_leq binA_gtr binA_geq det mem frame0 keeps_nil iadrA_sl fadrA_ref fadrA_fp ldv_agg ldv_one cells_base hset_same hset_hset lenA_fs lenA_sl lenA_nils zeros_ints ints_length one_base one_nilp one_nils one_ref one_sl one_fp one_fs one_fn gl_one resA resOf bound natOf afill splice AV.cells cells_agg bindW_some condW_true condW_false condW_dec condW_ndec guardW_tup guardW_true guardW_true' guardW_false guardW_false' allocW_some pickA_true pickA_false
theorem arcC_get : ∀ {A : Arcs} {k : Nat}, k < A.length → ∃ x y z : Int, ((arcC A).drop (k * 3)).take 3 = [I x, I y, I z]
  | [], k, h => by simp at h
  | (x, y, z) :: A, 0, _ => ⟨x, y, z, by simp [arcC]⟩
  | (x, y, z) :: A, k + 1, h => by
    obtain ⟨x', y', z', e⟩ := arcC_get (A := A) (k := k) (by simpa using h)
    exact ⟨x', y', z', by rw [show (k + 1) * 3 = k * 3 + 3 by omega]; simpa [arcC] using e⟩

set_option maxHeartbeats 1000000 in
theorem s_Same {v v' : AV} {A : Arcs} {V : Int} (hv : SV 3 v A.length (arcC A)) (hv' : SV 3 v' A.length (arcC A)) (hA : A.length < 4611686018427387904) :
    Pure prog n_ref52_Same [.agg [I V, v], .agg [I V, v']] (B true) := by
  refine pure_of cf_ref52_Same rfl fun h => ?_
  have o1 := hv.one
  have o2 := hv'.one
  simp [o1, o2]
  intro b2 hb2 b3 hb3
  have ne1 : b3 ≠ b2 := fun he => by rw [he, hset_same] at hb3; cases hb3
  have hk : Kp h (hset (hset h b2 [I V, v]) b3 [I V, v']) := ((Kp.refl h).new hb2 _).new hb3 _
  have r2 : hset (hset h b2 [I V, v]) b3 [I V, v'] b2 = some [I V, v] := by rw [hset_ne _ _ (Ne.symm ne1), hset_same]
  have r3 : hset (hset h b2 [I V, v]) b3 [I V, v'] b3 = some [I V, v'] := hset_same ..
  simp [ld_fst r2, ld_fst r3, ld_snd r2, ld_snd r3, hv.len, hv'.len]
  generalize hset (hset h b2 [I V, v]) b3 [I V, v'] = g at *
  refine awp_for A.length (fun k fr' h' => h' = g ∧ fr' 5 = I k) ⟨rfl, by simp⟩ ?_
  intro k fr' h' hkn hk2 ⟨hh, h5⟩
  subst hh
  have k2 := hk2 2 (by decide)
  have k3 := hk2 3 (by decide)
  simp at k2 k3
  clear hk2
  by_cases hlt : k < A.length
  · obtain ⟨x, y, z, e⟩ := arcC_get hlt
    have hc := hv.1
    have hia := hv.iadr (i := k) ⟨by omega, by omega⟩
    have hib := hv'.iadr (i := k) ⟨by omega, by omega⟩
    simp at hia hib
    have ld := cellsAt_fpd (h := h') (cells := arcC A) (k := k * 3) (n := 3) (by omega)
    rw [e] at ld
    have u3 : IntKind.i64.wrap ((k : Int) + 1) = k + 1 := w64 _ (by omega)
    simp [h5, k2, k3, ld_snd r2, ld_snd r3, hv.len, hlt, hia, hib, ld, eqsA, u3]
  · have : k = A.length := by omega
    subst this
    simp [h5, k2, k3, ld_snd r2, hv.len]
    exact ⟨_, hk.sub, .id _, rfl⟩

theorem graphE_ne {n a b : Int} {H : Hist} {col : List Int} (h : graphE n a b H col = 0) : 1 ≤ n ∧ n ≤ 64 ∧ histE n H = 0 ∧ nodesE col col.length n (-1) = 0 := by
  unfold graphE at h
  split at h
  · omega
  · rename_i hb
    simp [badG] at hb
    split at h
    · omega
    · split at h
      · omega
      · exact ⟨by omega, by omega, by omega, by omega⟩

theorem hsum_of {n : Nat} {H : Hist} {col : List Int} (ok : GOk n H col) : hsum H ≤ 64 * H.length :=
  hsum_le H fun p hp => by
    obtain ⟨j, hj, rfl⟩ := List.mem_iff_getElem.1 hp
    have := ok.hl j hj
    simpa [List.getD, hj] using this

theorem graphA_len (n : Nat) (a b : Int) (H : Hist) (col : List Int) : ((graphA n a b H col).length : Int) = 2 * n + H.length + hsum H + col.length := by
  have := gH_len1 n b H 0 (gL0 n)
  simp only [graphA, List.length_append, gA0_len, gA1_len, gA2_len]
  omega

set_option maxHeartbeats 4000000 in
theorem s_RegenerateGraphs {v w : AV} {cells : List AV} {H : Hist} {col : List Int} (hv : SV 2 v H.length cells) (hc : HLc cells H) (hcol : IL w col)
    (hHl : H.length < 4611686018427387904) (hcl : col.length < 4611686018427387904)
    (hhl : ∀ i, i < H.length → (H.getD i default).2.length < 4611686018427387904) (n a b : Int) : Pure prog n_law52_RegenerateGraphs [I n, I a, I b, v, w] (B true) := by
  refine pure_of cf_law52_RegenerateGraphs rfl fun h => ?_
  by_cases c1 : 130 < H.length
  · have c1' : (130 : Int) < H.length := by omega
    simp [hv.len, c1']
    exact RetP.same
  have c1' : ¬ (130 : Int) < H.length := by omega
  by_cases c2 : 100 < col.length
  · have c2' : (100 : Int) < col.length := by omega
    simp [hv.len, hcol.len, c1', c2']
    exact RetP.same
  have c2' : ¬ (100 : Int) < col.length := by omega
  simp [hv.len, hcol.len, c1', c2']
  refine (s_Graph hv hc hcol (by omega) (by omega) hhl n a b).call ?_
  have hga := s_GraphArgs hv hc hcol (by omega) (by omega) hhl n a b
  unfold graphR
  by_cases hE : graphE n a b H col = 0
  · obtain ⟨hn1, hn2, hh, hc2⟩ := graphE_ne hE
    rw [if_pos hE, hE]
    rw [hE] at hga
    obtain ⟨n, rfl⟩ : ∃ m : Nat, n = m := ⟨n.toNat, by omega⟩
    have ok := GOk.of (by omega) hh hc2
    have hlen := graphA_len n a b H col
    have hs := hsum_of ok
    have hrg := s_refGraph hv hc hcol n a b (by omega) (by omega) (by omega) ok
    have hsv := gl_SV (sz := 3) (arcC_length (graphA n a b H col))
    simp
    intro b11 hb11
    rw [st_all_at (hset_same h b11 [I 0, .nils]) (n := 2) rfl rfl (by simp [gl_one, one_base]), hset_hset]
    refine hga.call ?_
    simp [ld_both (hset_same h b11 [I (2 * ((n : Int) + H.length) + 2), gl (graphA n a b H col).length (arcC (graphA n a b H col))])]
    refine hrg.call ?_
    refine (s_Same hsv hsv (by omega)).call ?_
    exact ⟨_, ((Kp.refl h).new hb11 _).sub, .id _, rfl⟩
  · rw [if_neg hE]
    simp
    intro b11 hb11
    rw [st_all_at (hset_same h b11 [I 0, .nils]) (n := 2) rfl rfl rfl, hset_hset]
    refine hga.call ?_
    have r := hset_same h b11 [I 0, .nils]
    simp [hE, ld_fst r, ld_snd r]
    exact ⟨_, ((Kp.refl h).new hb11 _).sub, .id _, rfl⟩
end Go.AM.Ytmihmgnjnedfcaa

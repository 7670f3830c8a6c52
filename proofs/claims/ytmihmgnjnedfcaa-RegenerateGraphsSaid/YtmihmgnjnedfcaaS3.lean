/- Contracts of functions: the arguments of Graph. -/
import Derived.Test.YtmihmgnjnedfcaaS2
set_option maxRecDepth 100000
set_option linter.unusedSimpArgs false
set_option linter.unusedVariables false
namespace Go.AM.Ytmihmgnjnedfcaa
open Go Go.AM
attribute [local simp ↓] awp_seq awp_reg awp_skip awp_cond awp_block awp_exit awp_ret awp_fz thenW_normal thenW_exit thenW_ret inBlk_normal inBlk_exit inBlk_ret aops_cons aops_nil e_mv e_guard e_pick e_ld e_app e_cpy e_st e_call callW_f updO_some updO_none e_bin e_isnil e_fadr e_iadr e_iarr e_len e_build e_mkf e_nc e_not e_neg e_cvt e_slc e_fld e_ext e_min e_eqs e_new e_box e_mkl e_mks
attribute [local simp] upd_apply ev_t ev_k ev_f binA_add binA_sub binA_mul binA_quo binA_rem binA_eql binA_neq binA_lss binA_leq binA_gtr binA_geq det mem frame0 keeps_nil iadrA_sl fadrA_ref fadrA_fp ldv_agg ldv_one cells_base hset_same hset_hset lenA_fs lenA_sl lenA_nils zeros_ints ints_length one_base one_nilp one_nils one_ref one_sl one_fp one_fs one_fn gl_one resA resOf bound natOf afill splice AV.cells cells_agg bindW_some condW_true condW_false condW_dec condW_ndec guardW_tup guardW_true guardW_true' guardW_false guardW_false' allocW_some pickA_true pickA_false
abbrev Hist := List (Int × List Int)

/-- The cells of a history. -/
def HLc (cells : List AV) (H : Hist) : Prop := ∀ i, i < H.length → cells.getD (i * 2) .nils = I (H.getD i default).1 ∧ IL (cells.getD (i * 2 + 1) .nils) (H.getD i default).2

def histE (n : Int) : Hist → Int
  | [] => 0
  | (v, l) :: r => if v < 0 ∨ n ≤ v then 6 else if nodesE l l.length n v ≠ 0 then nodesE l l.length n v else histE n r

def hsum : Hist → Int
  | [] => 0
  | (_, l) :: r => l.length + hsum r

def badG (n a b : Int) : Bool := decide (n < 1) || decide (64 < n) || decide (a < 0) || decide (1048576 < a) || decide (b < 0) || decide (1048576 < b)

def graphE (n a b : Int) (H : Hist) (col : List Int) : Int :=
  if badG n a b = true then 6 else if histE n H ≠ 0 then histE n H else if nodesE col col.length n (-1) ≠ 0 then nodesE col col.length n (-1)
  else if 256 < 2 * (n + H.length) + 2 ∨ 1024 < 2 * n + H.length + col.length + hsum H then 8 else 0

theorem nodesE_le {l : List Int} {n but : Int} (hn : 0 ≤ n) (h : nodesE l l.length n but = 0) : (l.length : Int) ≤ n := by
  unfold nodesE at h
  simp at h
  split at h
  · rename_i hr
    split at h
    · rename_i hd
      have hsub : l.map Int.toNat ⊆ List.range n.toNat := by
        intro x hx
        obtain ⟨y, hy, rfl⟩ := List.mem_map.1 hx
        have := List.all_eq_true.1 hr y hy
        simp at this
        rw [List.mem_range]; omega
      have hnd : (l.map Int.toNat).Nodup := by
        rw [List.nodup_iff_pairwise_ne, List.pairwise_map]
        refine List.Pairwise.imp_of_mem (R := fun a b => a ≠ b) ?_ (List.nodup_iff_pairwise_ne.1 hd)
        intro a b ha hb hab he
        have h1 := List.all_eq_true.1 hr a ha
        have h2 := List.all_eq_true.1 hr b hb
        simp at h1 h2
        omega
      have := List.Nodup.length_le_of_subset hnd hsub
      simp at this
      omega
    · omega
  · omega

theorem histE_append (n : Int) : ∀ (A B : Hist), histE n A = 0 → histE n (A ++ B) = histE n B
  | [], B, _ => rfl
  | (v, l) :: A, B, h => by
    simp only [List.cons_append, histE] at h ⊢
    split at h
    · omega
    · rename_i h1
      rw [if_neg h1]
      split at h
      · omega
      · rename_i h2
        rw [if_neg h2]
        exact histE_append n A B h

theorem hsum_append : ∀ (A B : Hist), hsum (A ++ B) = hsum A + hsum B
  | [], B => by simp [hsum]
  | (v, l) :: A, B => by
    simp only [List.cons_append, hsum, hsum_append A B]
    omega

theorem take_snoc {H : Hist} {k : Nat} (hk : k < H.length) : H.take (k + 1) = H.take k ++ [H.getD k default] := by
  rw [List.take_succ_eq_append_getElem hk]
  simp [List.getD, hk]

theorem drop_get {H : Hist} {k : Nat} (hk : k < H.length) : H = H.take k ++ H.getD k default :: H.drop (k + 1) := by
  have : H.getD k default = H[k] := by simp [List.getD, hk]
  rw [this, ← List.drop_eq_getElem_cons hk, List.take_append_drop]

theorem hsum_nonneg : ∀ (A : Hist), 0 ≤ hsum A
  | [] => by simp [hsum]
  | (v, l) :: A => by simp only [hsum]; have := hsum_nonneg A; omega

set_option maxHeartbeats 4000000 in
theorem s_GraphArgs {v w : AV} {cells : List AV} {H : Hist} {col : List Int} (hv : SV 2 v H.length cells) (hc : HLc cells H) (hcol : IL w col) (hH : H.length ≤ 130) (hcl : col.length ≤ 100)
    (hhl : ∀ i, i < H.length → (H.getD i default).2.length < 4611686018427387904) (n a b : Int) : Pure prog n_ref52_GraphArgs [I n, I a, I b, v, w] (I (graphE n a b H col)) := by
  refine pure_of cf_ref52_GraphArgs rfl fun h => ?_
  have early : badG n a b = true → RetP h (I (graphE n a b H col)) (I 6) h := by
    intro hb
    rw [show graphE n a b H col = 6 by simp [graphE, hb]]
    exact RetP.same
  by_cases c1 : n < 1
  · simp [c1]; exact early (by simp [badG, c1])
  by_cases c2 : 64 < n
  · simp [c1, c2]; exact early (by simp [badG, c2])
  by_cases c3 : a < 0
  · simp [c1, c2, c3]; exact early (by simp [badG, c3])
  by_cases c4 : 1048576 < a
  · simp [c1, c2, c3, c4]; exact early (by simp [badG, c4])
  by_cases c5 : b < 0
  · simp [c1, c2, c3, c4, c5]; exact early (by simp [badG, c5])
  by_cases c6 : 1048576 < b
  · simp [c1, c2, c3, c4, c5, c6]; exact early (by simp [badG, c6])
  clear early
  have hg : badG n a b = false := by simp [badG, c1, c2, c3, c4, c5, c6]
  have hcells := hv.1
  simp [c1, c2, c3, c4, c5, c6, hv.len, hcol.len]
  simp (disch := omega) only [w64]
  refine awp_for H.length (fun k fr' h' => h' = h ∧ fr' 12 = I k ∧ histE n (H.take k) = 0 ∧ hsum (H.take k) ≤ 64 * k ∧ fr' 11 = I (2 * n + H.length + col.length + hsum (H.take k))) ⟨rfl, by simp, by simp [histE], by simp [hsum], by simp [hsum]⟩ ?_
  intro k fr' h' hkn hk ⟨hh, h12, hx, hs, h11⟩
  subst hh
  have k0 := hk 0 (by decide)
  have k3 := hk 3 (by decide)
  have k4 := hk 4 (by decide)
  simp at k0 k3 k4
  clear hk
  have hs0 := hsum_nonneg (H.take k)
  by_cases hlt : k < H.length
  · obtain ⟨e1, e2⟩ := hc k hlt
    have hl := hhl k hlt
    have hsp := drop_get hlt
    have hts := take_snoc hlt
    generalize H.getD k default = p at *
    obtain ⟨nd, hp⟩ := p
    simp only at e1 e2 hl
    have hia := hv.iadr (i := k) ⟨by omega, by omega⟩
    simp at hia
    have hl1 := cellsAt_fp1 (h := h') (cells := cells) (k := k * 2) (by omega)
    have hl2 := cellsAt_fp1 (h := h') (cells := cells) (k := k * 2 + 1) (by omega)
    rw [e1] at hl1
    generalize cells.getD (k * 2 + 1) .nils = hw at *
    have bad : histE n ((nd, hp) :: H.drop (k + 1)) ≠ 0 → graphE n a b H col = histE n ((nd, hp) :: H.drop (k + 1)) := by
      intro hb
      have : histE n H = histE n ((nd, hp) :: H.drop (k + 1)) := by
        conv => lhs; rw [hsp]
        exact histE_append n _ _ hx
      simp [graphE, hg, this, hb]
    by_cases d1 : nd < 0
    · simp [h12, k0, k3, hlt, hv.len, hia, hl1, hl2, d1]
      rw [bad (by simp [histE, d1])]
      simp [histE, d1]
      exact RetP.same
    by_cases d2 : n ≤ nd
    · simp [h12, k0, k3, hlt, hv.len, hia, hl1, hl2, d1, d2]
      rw [bad (by simp [histE, d1, d2])]
      simp [histE, d1, d2]
      exact RetP.same
    simp [h12, k0, k3, hlt, hv.len, hia, hl1, hl2, d1, d2]
    refine (s_list e2 hl n nd).call ?_
    by_cases d3 : nodesE hp hp.length n nd = 0
    · have hle := nodesE_le (by omega) d3
      simp [h12, k0, k3, hlt, hv.len, hia, hl1, hl2, d3, h11, e2.len]
      simp (disch := omega) only [w64]
      simp
      rw [hts, histE_append n _ _ hx, hsum_append]
      simp [histE, hsum, d1, d2, d3]
      omega
    · simp [d3]
      rw [bad (by simp [histE, d1, d2, d3])]
      simp [histE, d1, d2, d3]
      exact RetP.same
  · have : k = H.length := by omega
    subst this
    rw [List.take_length] at hx hs h11 hs0
    simp [h12, k3, k0, k4, hv.len]
    refine (s_list hcol (by omega) n (-1)).call ?_
    by_cases d3 : nodesE col col.length n (-1) = 0
    · have w1 : IntKind.i64.wrap (n + H.length) = n + H.length := w64 _ (by omega)
      have w2 : IntKind.i64.wrap (2 * (n + H.length)) = 2 * (n + H.length) := w64 _ (by omega)
      have w3 : IntKind.i64.wrap (2 * (n + H.length) + 2) = 2 * (n + H.length) + 2 := w64 _ (by omega)
      by_cases g1 : 256 < 2 * (n + H.length) + 2
      · simp [d3, k0, k3, hv.len, w1, w2, w3, g1]
        rw [show graphE n a b H col = 8 by simp [graphE, hg, hx, d3, g1]]
        exact RetP.same
      by_cases g2 : 1024 < 2 * n + H.length + col.length + hsum H
      · simp [d3, k0, k3, hv.len, w1, w2, w3, g1, h11, g2]
        rw [show graphE n a b H col = 8 by simp [graphE, hg, hx, d3, g2]]
        exact RetP.same
      · simp [d3, k0, k3, hv.len, w1, w2, w3, g1, h11, g2]
        rw [show graphE n a b H col = 0 by simp [graphE, hg, hx, d3, g1, g2]]
        exact RetP.same
    · simp [d3]
      rw [show graphE n a b H col = nodesE col col.length n (-1) by simp [graphE, hg, hx, d3]]
      exact RetP.same
end Go.AM.Ytmihmgnjnedfcaa

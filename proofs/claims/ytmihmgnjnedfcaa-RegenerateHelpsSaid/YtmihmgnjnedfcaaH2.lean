/- The law of the symbols of helpers. -/
import Derived.Test.YtmihmgnjnedfcaaH1
set_option maxRecDepth 100000
set_option linter.unusedSimpArgs false
set_option linter.unusedVariables false
namespace Go.AM.Ytmihmgnjnedfcaa
open Go Go.AM
attribute [local simp ↓] awp_seq awp_reg awp_skip awp_cond' awp_block awp_exit awp_ret awp_fz thenW_normal thenW_exit thenW_ret inBlk_normal inBlk_exit inBlk_ret aops_cons' contA_ap aops_nil e_mv e_guard' e_pick' e_ld' e_app e_cpy e_st' e_call callW_f updO_some updO_none e_bin' e_isnil' e_fadr' e_iadr' e_iarr' e_len' e_build' e_mkf' e_nc' e_not' e_neg' e_cvt' e_slc' e_fld' e_ext' e_min' e_eqs' e_new e_box e_mkl e_mks
attribute [local simp] upd_apply ev_t ev_k ev_f binA_add binA_sub binA_mul binA_quo binA_rem binA_eql binA_neq binA_lss binA_leq binA_gtr binA_geq det mem frame0 keeps_nil iadrA_sl fadrA_ref fadrA_fp ldv_agg ldv_one cells_base hset_same hset_hset lenA_fs lenA_sl lenA_nils zeros_ints ints_length one_base one_nilp one_nils one_ref one_sl one_fp one_fs one_fn gl_one resA resOf bound natOf afill splice AV.cells cells_agg bindR_some condR_true condR_false guardR_tup guardR_true guardR_true' guardR_false guardR_false' allocW_some pickA_true pickA_false
open Go.FM

set_option maxHeartbeats 2000000 in
theorem s_RegenerateHelps {R : Rc} {mv pv v : AV} (hmv : IL mv R.mo) (hml : R.mo.length < 4611686018427387904) (hpv : IL pv R.pts) (hpl : R.pts.length < 4611686018427387904) (f : Int) {c : List Int} (hv : IL v c) (hcl : c.length < 4611686018427387904) :
    Pure prog n_law52_RegenerateHelps [.agg (R.cells mv pv), I f, v] (B true) := by
  classical
  refine pure_of cf_law52_RegenerateHelps rfl fun h => ?_
  have hone := hmv.one
  have hone2 := hpv.one
  simp [hone, hone2]
  intro b3 hb3
  obtain ⟨l0, l3, l4, l5, l6, l7⟩ := ld7_at (hset_same h b3 (R.cells mv pv))
  have hkg : Kp h (hset h b3 (R.cells mv pv)) := (Kp.refl h).new hb3 _
  generalize hset h b3 (R.cells mv pv) = g at *
  have fin : RetP h (B true) (B true) g := ⟨_, hkg.sub, .id _, rfl⟩
  by_cases n1 : 12 < R.pts.length
  · have n1' : 12 < (R.pts.length : Int) := by omega
    simp [l6, hpv.len, n1, n1']
    exact fin
  have n1' : ¬ 12 < (R.pts.length : Int) := by omega
  simp [l6, l7, hpv.len, n1, n1']
  refine (s_Help hmv hml hpv hpl f hv hcl).call ?_
  by_cases hE : R.E = 0
  case neg =>
    have h1 : R.helpE f c = R.E := by rw [Rc.helpE, if_pos hE]
    rw [Rc.helpR, if_neg (by rw [h1]; exact hE), h1]
    simp [l7]
    refine (s_refCheck52 hmv hml hpv hpl).call ?_
    simp [hE]
    exact fin
  have hE2 : R.helpE f c = if f < 0 ∨ (R.pts.length : Int) ≤ f then 6 else elE R.D c R.szN := by rw [Rc.helpE, if_neg (by simpa using hE)]
  obtain ⟨hf, e2, e3, ok, e5, _⟩ := Rc.E0 hE
  have hck := s_refCheck52 hmv hml hpv hpl
  rw [hE] at hck
  by_cases c1 : f < 0
  · have h1 : R.helpE f c = 6 := by rw [hE2, if_pos (.inl c1)]
    rw [Rc.helpR, if_neg (by rw [h1]; omega), h1]
    simp [l7]
    refine hck.call ?_
    simp [c1]
    exact fin
  by_cases c2 : (R.pts.length : Int) ≤ f
  · have h1 : R.helpE f c = 6 := by rw [hE2, if_pos (.inr c2)]
    rw [Rc.helpR, if_neg (by rw [h1]; omega), h1]
    simp [l7]
    refine hck.call ?_
    simp [c1, c2, l6, hpv.len]
    exact fin
  rw [if_neg (by omega)] at hE2
  have r := hf.fd
  have hli := s_List r.toRg hone hv hcl R.szN
  rw [hf.1.dp, hf.1.dm] at hli
  by_cases he : elE R.D c R.szN = 0
  case neg =>
    rw [Rc.helpR, if_neg (by rw [hE2]; exact he), hE2]
    simp [l7]
    refine hck.call ?_
    simp [c1, c2, l6, hpv.len, l7]
    refine (s_refSize ok hone hone2).call ?_
    simp [l0]
    refine hli.call ?_
    simp [he]
    exact fin
  rw [he] at hE2 hli
  have hlen : (c.length : Int) = R.szN := by
    unfold elE at he
    split at he
    · omega
    · rename_i hh; exact Classical.byContradiction fun hc => hh hc
  rw [Rc.helpR, if_pos hE2]
  have hrh := s_refHelp hE hmv hpv (f := f) ⟨by omega, by omega⟩ hv hlen
  generalize R.helpV f c = x at *
  simp [l7]
  refine hck.call ?_
  simp [c1, c2, l6, hpv.len, l7]
  refine (s_refSize ok hone hone2).call ?_
  simp [l0]
  refine hli.call ?_
  simp [l7]
  refine hrh.call ?_
  simp
  exact fin
end Go.AM.Ytmihmgnjnedfcaa

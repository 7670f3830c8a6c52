import Derived.Test.YtmihmgnjnedfcabBB
import Derived.Test.YtmihmgnjnedfcabBH

section
/- Codes of the program, as the conversion gives them. -/
set_option maxRecDepth 100000
namespace Go.AM.Ytmihmgnjnedfcab
open Go Go.AM
-- law09_MatrixSolve
abbrev c_law09_MatrixSolve_5 : SC := .ret
abbrev c_law09_MatrixSolve_4 : SC := .seq (.reg [o 38 (.mv (.t 8)), o 39 (.mv (.t 10)), o 40 (.bin .eql (.t 38) (.t 39)), o 41 (.mv (.t 40)), og 41 true 0 42 (.mv (.t 7)), og 41 true 0 43 (.mv (.t 9)), og 41 true 0 44 (.call (.f n_ref09_SameInts) [.t 42, .t 43]), o 45 (.pick (.t 41) (.t 44) (kb false)), o 6 (.mv (.t 45))]) c_law09_MatrixSolve_5
abbrev c_law09_MatrixSolve_3 : SC := .seq (.reg [o 32 (.ld (.t 3) 3 true), o 33 (.ld (.t 4) 2 true), o 34 (.mv (.t 2)), o 35 (.call (.f n_ref09_Solve) [.t 32, .t 33, .t 34]), o 31 (.mv (.t 35)), o 36 (.ext (.t 31) 0), o 37 (.ext (.t 31) 1), o 9 (.mv (.t 36)), o 10 (.mv (.t 37))]) c_law09_MatrixSolve_4
abbrev c_law09_MatrixSolve_2 : SC := .seq (.reg [o 25 (.ld (.t 3) 3 true), o 26 (.ld (.t 4) 2 true), o 27 (.mv (.t 2)), o 28 (.call (.f n_matrix_Solve) [.t 25, .t 26, .t 27]), o 24 (.mv (.t 28)), o 29 (.ext (.t 24) 0), o 30 (.ext (.t 24) 1), o 7 (.mv (.t 29)), o 8 (.mv (.t 30))]) c_law09_MatrixSolve_3
abbrev c_law09_MatrixSolve_1 : SC := .seq (.seq (.reg [o 11 (.call (.f n_law09_awake) []), o 12 (.not (.t 11)), o 13 (.mv (.t 12)), og 13 false 0 14 (.ld (.t 4) 2 true), og 13 false 0 15 (.call (.f n_ref09_Few) [.t 14, ki 200]), og 13 false 0 16 (.not (.t 15)), o 17 (.pick (.t 13) (kb true) (.t 16)), o 18 (.mv (.t 17)), og 18 false 0 19 (.mv (.t 2)), og 18 false 0 20 (.len (.t 19)), og 18 false 0 21 (.bin .gtr (.t 20) (ki 300)), o 22 (.pick (.t 18) (kb true) (.t 21))]) (.cond (.t 22) (.seq (.reg [o 23 (.call (.f n_law09_awake) []), o 6 (.mv (.t 23))]) .ret) .skip)) c_law09_MatrixSolve_2
abbrev c_law09_MatrixSolve_0 : SC := .seq (.reg [o 3 (.box (.t 0)), o 4 (.box (.t 1)), o 6 (.mv (kb false))]) c_law09_MatrixSolve_1
theorem cf_law09_MatrixSolve : cfun Go.Proofs.Try.prog md n_law09_MatrixSolve = some ⟨3, 46, c_law09_MatrixSolve_0.erase, [.t 6]⟩ := by kernel_rfl
end Go.AM.Ytmihmgnjnedfcab
end

section
/- The law MatrixSolve. -/
set_option maxRecDepth 100000
set_option linter.unusedSimpArgs false
set_option linter.unusedVariables false
namespace Go.AM.Ytmihmgnjnedfcab
open Go Go.AM
attribute [local simp ↓] awp_seq awp_reg awp_skip awp_cond' awp_block awp_exit awp_ret awp_fz thenW_normal thenW_exit thenW_ret inBlk_normal inBlk_exit inBlk_ret aops_cons' contA_ap aops_nil e_mv e_guard' e_pick' e_ld' e_app e_cpy e_st' e_call callW_f updO_some updO_none e_bin' e_isnil' e_fadr' e_iadr' e_iarr' e_len' e_build' e_mkf' e_nc' e_not' e_neg' e_cvt' e_slc' e_fld' e_ext' e_min' e_eqs' e_new e_box e_mkl e_mks
attribute [local simp] upd_apply ev_t ev_k ev_f binA_add binA_sub binA_mul binA_quo binA_rem binA_eql binA_neq binA_lss binA_leq binA_gtr binA_geq det mem frame0 keeps_nil iadrA_sl fadrA_ref fadrA_fp ldv_agg ldv_one cells_base hset_same hset_hset lenA_fs lenA_sl lenA_nils zeros_ints ints_length one_base one_nilp one_nils one_ref one_sl one_fp one_fs one_fn gl_one resA resOf bound natOf afill splice AV.cells cells_agg bindR_some condR_true condR_false guardR_tup guardR_true guardR_true' guardR_false guardR_false' allocW_some pickA_true pickA_false
open Go.FM

set_option maxHeartbeats 2000000 in
theorem s_MatrixSolve {p m : Int} {mv v bv : AV} {mo : List Int} (hmv : IL mv mo) (hml : mo.length < 4611686018427387904) {c : Int} {L : List (List Int)} (hv : ML v L) (hs : MSm L) {b : List Int} (hb : IL bv b) (hbl : b.length < 4611686018427387904) :
    Pure prog n_law09_MatrixSolve [.agg [I p, I m, mv], .agg [I c, v], bv] (B true) := by
  refine pure_of cf_law09_MatrixSolve rfl fun h => ?_
  have hone := hmv.one
  have hone2 := hv.one
  unfold c_law09_MatrixSolve_0 c_law09_MatrixSolve_1
  generalize hC : c_law09_MatrixSolve_2 = C2
  simp [hone, hone2]
  intro b3 hb3 b4 hb4
  obtain ⟨g3, g4, hk⟩ := two_boxes (ys := [I c, v]) hb3 hb4
  generalize hset (hset h b3 [I p, I m, mv]) b4 [I c, v] = g at *
  obtain ⟨_, _, _, l3⟩ := ld3_at g3
  have l4 := lq_both g4
  refine s_awake.call ?_
  simp [l4]
  refine (s_Few hv hs.1 (n := 200) (by omega)).call ?_
  by_cases hf : fewB c L 200 = true
  case neg =>
    have : fewB c L 200 = false := by simpa using hf
    rw [this]
    simp
    refine s_awake.call ?_
    simp
    exact ⟨_, hk.sub, .id _, rfl⟩
  rw [hf]
  by_cases h3 : (300 : Int) < b.length
  · simp [hb.len, h3]
    refine s_awake.call ?_
    simp
    exact ⟨_, hk.sub, .id _, rfl⟩
  simp [hb.len, h3]
  have q1 := s_Solve (p := p) (m := m) hmv hml (c := c) hv hs hb hbl
  have q2 := s_refSolve (p := p) (m := m) hmv hml (c := c) hv hs hb hbl
  subst hC
  unfold solR at q1 q2
  by_cases he : solE p m mo c L b = 0
  · rw [if_pos he] at q1 q2
    have hi : IL (.fs c.toNat (ints (solX (mkD p m mo) L b c.toNat))) (solX (mkD p m mo) L b c.toNat) := by
      have := IL.fs (solX (mkD p m mo) L b c.toNat)
      rwa [show (solX (mkD p m mo) L b c.toNat).length = c.toNat from solK_len ..] at this
    have hsi := s_SameInts hi hi (by rw [show (solX (mkD p m mo) L b c.toNat).length = c.toNat from solK_len ..]; have := fewB_le hf; omega)
    rw [decide_eq_true rfl] at hsi
    generalize AV.fs c.toNat (ints (solX (mkD p m mo) L b c.toNat)) = xv at *
    simp [l3, l4]
    refine q1.call ?_
    simp [l3, l4]
    refine q2.call ?_
    simp
    refine hsi.call ?_
    simp
    exact ⟨_, hk.sub, .id _, rfl⟩
  · rw [if_neg he] at q1 q2
    generalize solE p m mo c L b = e at *
    have hsi := s_SameInts IL.nils IL.nils (by decide)
    rw [decide_eq_true rfl] at hsi
    simp [l3, l4]
    refine q1.call ?_
    simp [l3, l4]
    refine q2.call ?_
    simp
    refine hsi.call ?_
    simp
    exact ⟨_, hk.sub, .id _, rfl⟩
end Go.AM.Ytmihmgnjnedfcab
end

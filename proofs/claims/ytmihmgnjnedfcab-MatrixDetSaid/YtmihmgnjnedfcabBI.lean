import Derived.Test.YtmihmgnjnedfcabBH
import Derived.Test.YtmihmgnjnedfcabBB

section
/- Parts that the laws of chapter 9 share. -/
set_option maxRecDepth 100000
set_option linter.unusedSimpArgs false
set_option linter.unusedVariables false
namespace Go.AM.Ytmihmgnjnedfcab
open Go Go.AM
attribute [local simp ↓] awp_seq awp_reg awp_skip awp_cond' awp_block awp_exit awp_ret awp_fz thenW_normal thenW_exit thenW_ret inBlk_normal inBlk_exit inBlk_ret aops_cons' contA_ap aops_nil e_mv e_guard' e_pick' e_ld' e_app e_cpy e_st' e_call callW_f updO_some updO_none e_bin' e_isnil' e_fadr' e_iadr' e_iarr' e_len' e_build' e_mkf' e_nc' e_not' e_neg' e_cvt' e_slc' e_fld' e_ext' e_min' e_eqs' e_new e_box e_mkl e_mks
attribute [local simp] upd_apply ev_t ev_k ev_f binA_add binA_sub binA_mul binA_quo binA_rem binA_eql binA_neq binA_lss binA_leq binA_gtr binA_geq det mem frame0 keeps_nil iadrA_sl fadrA_ref fadrA_fp ldv_agg ldv_one cells_base hset_same hset_hset lenA_fs lenA_sl lenA_nils zeros_ints ints_length one_base one_nilp one_nils one_ref one_sl one_fp one_fs one_fn gl_one resA resOf bound natOf afill splice AV.cells cells_agg bindR_some condR_true condR_false guardR_tup guardR_true guardR_true' guardR_false guardR_false' allocW_some pickA_true pickA_false
open Go.FM

theorem canR_ok {p m : Int} {mo : List Int} {n : Nat} {L : List (List Int)} (he : openE p m mo [((n : Int), L)] = 0) (hM : Mat (mkD p m mo) n L) (r : Fd (mkD p m mo)) : ∃ CV PV, canR p m mo n L = .tup [.agg [I n, CV], PV, I 0] ∧ ML CV (canL (mkD p m mo) L n) ∧ IL PV (pivL (mkD p m mo) L n) ∧ CV.cells = [CV] ∧ one CV = true ∧ one PV = true := by
  have hcl := canL_len0 r hM n
  refine ⟨_, _, by unfold canR; rw [if_pos he, Int.toNat_natCast], ?_, gil_IL _, rfl, rfl, (gil_IL _).one⟩
  rw [← hcl]; exact ML_fs _
theorem canR_bad {p m : Int} {mo : List Int} {c : Int} {L : List (List Int)} (he : openE p m mo [(c, L)] ≠ 0) : canR p m mo c L = .tup [.agg [I 0, .nils], .nils, I (openE p m mo [(c, L)])] := by
  unfold canR; rw [if_neg he]
theorem st_box2 {h : Hp} {b : Nat} {n : Int} {cv : AV} {R : AV → Hp → Prop} (h1 : cv.cells = [cv]) (h2 : one cv = true) : stR (.ref b 0) (.agg [I n, cv]) 2 (hset h b [I 0, .nils]) R = R (.tup []) (hset h b [I n, cv]) :=
  st_box (cs := [I 0, .nils]) (cs' := [I n, cv]) rfl rfl (by show (one (I n) && (one cv && true)) = true; rw [h2]; rfl)
/-- A matrix over the field has no error. -/
theorem openE_mat {p m : Int} {mo : List Int} {n : Nat} {L : List (List Int)} (hf : FieldP p m mo) (hn : n ≤ 256) (hl : L.length ≤ 256) (hM : Mat (mkD p m mo) n L) : openE p m mo [((n : Int), L)] = 0 := by
  unfold openE
  rw [if_pos hf]
  have : chkE (mkD p m mo) n L = 0 := by
    unfold chkE
    rw [if_neg (by omega), if_neg (fun hh => hh fun row hr => by rw [(hM row hr).1]), if_pos fun row hr x hx => (hM row hr).2 x hx]
  simp only [chkAll]
  rw [if_neg (by simpa using this)]
theorem mat_sm {D : Ds} {n : Nat} {L : List (List Int)} (hn : n ≤ 256) (hl : L.length ≤ 256) (hM : Mat D n L) : MSm L := ⟨by omega, fun row hr => by rw [(hM row hr).1]; omega⟩
theorem pv_get {D : Ds} {L : List (List Int)} {n i : Nat} (hi : i < (elim D L n).pv.length) : (pivL D L n).getD i 0 = (pvF (elim D L n).pv i : Nat) := map_getD' Int.ofNat (elim D L n).pv i 0 0 hi
/-- What a canonical matrix is. -/
structure Rd (D : Ds) (CL : List (List Int)) (rk n : Nat) (pv : List Nat) : Prop where
  len : CL.length = rk
  pvl : pv.length = rk
  le : rk ≤ n
  mat : Mat D n CL
  lt : ∀ i, i < rk → pvF pv i < n
  mono : ∀ i j, i < j → j < rk → pvF pv i < pvF pv j
  unit : ∀ i j, i < rk → j < rk → (CL.getD i []).getD (pvF pv j) 0 = if i = j then 1 else 0
  zero : ∀ i j, i < rk → j < pvF pv i → (CL.getD i []).getD j 0 = 0
theorem rd_of {D : Ds} (r : Fd D) {n : Nat} {L : List (List Int)} (hM : Mat D n L) : Rd D (canL D L n) (rkN D L n) n (elim D L n).pv :=
  ⟨canL_len0 r hM n, rfl, elim_le2 r hM n, canL_mat0 r hM n, fun i hi => can_lt (F := ⟨D, r⟩) hM n hi, fun i j h1 h2 => can_mono (F := ⟨D, r⟩) hM n h1 h2,
   fun i j h1 h2 => can_unit (F := ⟨D, r⟩) hM n h1 h2, fun i j h1 h2 => can_zero (F := ⟨D, r⟩) hM n h1 h2⟩
end Go.AM.Ytmihmgnjnedfcab
end

section
/- Codes of the program, as the conversion gives them. -/
set_option maxRecDepth 100000
namespace Go.AM.Ytmihmgnjnedfcab
open Go Go.AM
-- matrix_Transpose
abbrev c_matrix_TransposeB3_1 : SC := (.reg [o 52 (.fadr (.t 8) 1), o 54 (.mv (.t 9)), o 57 (.mv (.t 10)), o 58 (.mv (.t 11)), o 59 (.mv (.t 9)), o 60 (.iadr (.t 58) (.t 59) 1), o 53 (.ld (.t 52) 1 false), o 55 (.iadr (.t 53) (.t 54) 1), o 56 (.ld (.t 55) 1 false), o 61 (.ld (.t 60) 1 false), o 62 (.iadr (.t 56) (.t 57) 1), os (.st (.t 62) (.t 61) 1)])
abbrev c_matrix_TransposeB3_0 : SC := .seq (.reg [o 49 (.mv (.t 47)), o 50 (.iadr (.t 45) (.t 47) 1), o 51 (.ld (.t 50) 1 false), o 10 (.mv (.t 49)), o 11 (.mv (.t 51))]) c_matrix_TransposeB3_1
abbrev c_matrix_TransposeL1_3 : SC := (.reg [o 63 (.bin .add (.t 47) (ki 1)), o 47 (.mv (.t 63))])
abbrev c_matrix_TransposeL1_2 : SC := .seq (.block 3 c_matrix_TransposeB3_0) c_matrix_TransposeL1_3
abbrev c_matrix_TransposeL1_1 : SC := .seq (.cond (.t 48) .skip (.exit 2)) c_matrix_TransposeL1_2
abbrev c_matrix_TransposeL1_0 : SC := .seq (.reg [o 48 (.bin .lss (.t 47) (.t 46))]) c_matrix_TransposeL1_1
abbrev c_matrix_TransposeB1_3 : SC := (.block 2 (.loop c_matrix_TransposeL1_0))
abbrev c_matrix_TransposeB1_2 : SC := .seq (.reg [o 44 (.fadr (.t 3) 1), o 45 (.ld (.t 44) 1 false), o 46 (.len (.t 45)), o 47 (.mv (ki 0))]) c_matrix_TransposeB1_3
abbrev c_matrix_TransposeB1_1 : SC := .seq (.reg [o 36 (.fadr (.t 8) 1), o 38 (.mv (.t 9)), o 39 (.fadr (.t 3) 1), o 37 (.ld (.t 36) 1 false), o 40 (.ld (.t 39) 1 false), o 41 (.len (.t 40)), o 42 (.mks (.t 41) 1 [I 0]), o 43 (.iadr (.t 37) (.t 38) 1), os (.st (.t 43) (.t 42) 1)]) c_matrix_TransposeB1_2
abbrev c_matrix_TransposeB1_0 : SC := .seq (.reg [o 35 (.mv (.t 33)), o 9 (.mv (.t 35))]) c_matrix_TransposeB1_1
abbrev c_matrix_TransposeL0_3 : SC := (.reg [o 64 (.bin .add (.t 33) (ki 1)), o 33 (.mv (.t 64))])
abbrev c_matrix_TransposeL0_2 : SC := .seq (.block 1 c_matrix_TransposeB1_0) c_matrix_TransposeL0_3
abbrev c_matrix_TransposeL0_1 : SC := .seq (.cond (.t 34) .skip (.exit 0)) c_matrix_TransposeL0_2
abbrev c_matrix_TransposeL0_0 : SC := .seq (.reg [o 34 (.bin .lss (.t 33) (.t 32))]) c_matrix_TransposeL0_1
abbrev c_matrix_Transpose_5 : SC := .ret
abbrev c_matrix_Transpose_4 : SC := .seq (.reg [o 65 (.ld (.t 8) 2 true), os (.st (.t 4) (.t 65) 2), o 5 (.mv (ki 0))]) c_matrix_Transpose_5
abbrev c_matrix_Transpose_3 : SC := .seq (.seq (.reg [o 30 (.fadr (.t 8) 1), o 31 (.ld (.t 30) 1 false), o 32 (.len (.t 31)), o 33 (.mv (ki 0))]) (.block 0 (.loop c_matrix_TransposeL0_0))) c_matrix_Transpose_4
abbrev c_matrix_Transpose_2 : SC := .seq (.reg [o 23 (.fadr (.t 3) 1), o 26 (.fadr (.t 3) 0), o 24 (.ld (.t 23) 1 false), o 25 (.len (.t 24)), o 27 (.ld (.t 26) 1 false), o 28 (.mks (.t 27) 1 [.nils]), o 29 (.build [I 0, .nils] [(0, (1, .t 25)), (1, (1, .t 28))]), o 8 (.new [I 0, .nils]), os (.st (.t 8) (.t 29) 2)]) c_matrix_Transpose_3
abbrev c_matrix_Transpose_1 : SC := .seq (.seq (.reg [o 13 (.ld (.t 2) 3 true), o 14 (.ld (.t 3) 2 true), o 15 (.mkl 1 2 [I 0, .nils] [(0, (2, .t 14))]), o 16 (.call (.f n_matrix_open) [.t 13, .t 15]), o 12 (.mv (.t 16)), o 17 (.ext (.t 12) 0), o 18 (.ext (.t 12) 1), o 6 (.mv (.t 17)), o 7 (.mv (.t 18))]) (.seq (.reg [o 19 (.mv (.t 7)), o 20 (.bin .neq (.t 19) (ki 0))]) (.cond (.t 20) (.seq (.reg [o 21 (.build [I 0, .nils] []), o 22 (.mv (.t 7)), os (.st (.t 4) (.t 21) 2), o 5 (.mv (.t 22))]) .ret) .skip))) c_matrix_Transpose_2
abbrev c_matrix_Transpose_0 : SC := .seq (.reg [o 2 (.box (.t 0)), o 3 (.box (.t 1)), o 4 (.new [I 0, .nils]), o 5 (.mv (ki 0))]) c_matrix_Transpose_1
theorem cf_matrix_Transpose : cfun Go.Proofs.Try.prog md n_matrix_Transpose = some ⟨2, 66, c_matrix_Transpose_0.erase, [.c 4 2 true, .t 5]⟩ := by kernel_rfl
-- ref09_Transpose
abbrev c_ref09_Transpose_4 : SC := .ret
abbrev c_ref09_Transpose_3 : SC := .seq (.reg [o 14 (.fadr (.t 3) 1), o 17 (.fadr (.t 3) 1), o 19 (.fadr (.t 3) 0), o 15 (.ld (.t 14) 1 false), o 16 (.len (.t 15)), o 18 (.ld (.t 17) 1 false), o 20 (.ld (.t 19) 1 false), om 1 21 (.call (.f n_ref09_Turn) [.t 18, .t 20]), o 22 (.build [I 0, .nils] [(0, (1, .t 16)), (1, (1, .t 21))]), os (.st (.t 4) (.t 22) 2), o 5 (.mv (ki 0))]) c_ref09_Transpose_4
abbrev c_ref09_Transpose_2 : SC := .seq (.seq (.reg [o 10 (.mv (.t 6)), o 11 (.bin .neq (.t 10) (ki 0))]) (.cond (.t 11) (.seq (.reg [o 12 (.build [I 0, .nils] []), o 13 (.mv (.t 6)), os (.st (.t 4) (.t 12) 2), o 5 (.mv (.t 13))]) .ret) .skip)) c_ref09_Transpose_3
abbrev c_ref09_Transpose_1 : SC := .seq (.reg [o 7 (.ld (.t 2) 3 true), o 8 (.ld (.t 3) 2 true), o 9 (.call (.f n_ref09_Check) [.t 7, .t 8]), o 6 (.mv (.t 9))]) c_ref09_Transpose_2
abbrev c_ref09_Transpose_0 : SC := .seq (.reg [o 2 (.box (.t 0)), o 3 (.box (.t 1)), o 4 (.new [I 0, .nils]), o 5 (.mv (ki 0))]) c_ref09_Transpose_1
theorem cf_ref09_Transpose : cfun Go.Proofs.Try.prog md n_ref09_Transpose = some ⟨2, 23, c_ref09_Transpose_0.erase, [.c 4 2 true, .t 5]⟩ := by kernel_rfl
-- ref09_Turn
abbrev c_ref09_TurnL1_2 : SC := (.reg [o 18 (.mv (.t 8)), o 19 (.bin .add (.t 18) (ki 1)), o 8 (.mv (.t 19))])
abbrev c_ref09_TurnL1_1 : SC := .seq (.block 3 (.reg [o 20 (.mv (.t 7)), o 21 (.mv (.t 0)), o 22 (.mv (.t 8)), o 23 (.iadr (.t 21) (.t 22) 1), o 24 (.ld (.t 23) 1 false), o 25 (.mv (.t 6)), o 26 (.iadr (.t 24) (.t 25) 1), o 27 (.ld (.t 26) 1 false), o 28 (.mkl 1 1 [I 0] [(0, (1, .t 27))]), o 29 (.app (.t 20) (.t 28) 1), o 7 (.mv (.t 29))])) c_ref09_TurnL1_2
abbrev c_ref09_TurnL1_0 : SC := .seq (.seq (.reg [o 14 (.mv (.t 8)), o 15 (.mv (.t 0)), o 16 (.len (.t 15)), o 17 (.bin .lss (.t 14) (.t 16))]) (.cond (.t 17) .skip (.exit 2))) c_ref09_TurnL1_1
abbrev c_ref09_TurnL0_2 : SC := (.reg [o 12 (.mv (.t 6)), o 13 (.bin .add (.t 12) (ki 1)), o 6 (.mv (.t 13))])
abbrev c_ref09_TurnL0_1 : SC := .seq (.block 1 (.seq (.reg [o 7 (.mv (.k .nils))]) (.seq (.seq (.reg [o 8 (.mv (ki 0))]) (.block 2 (.loop c_ref09_TurnL1_0))) (.reg [o 30 (.mv (.t 5)), o 31 (.mv (.t 7)), o 32 (.mkl 1 1 [.nils] [(0, (1, .t 31))]), o 33 (.app (.t 30) (.t 32) 1), o 5 (.mv (.t 33))])))) c_ref09_TurnL0_2
abbrev c_ref09_TurnL0_0 : SC := .seq (.seq (.reg [o 9 (.mv (.t 6)), o 10 (.mv (.t 1)), o 11 (.bin .lss (.t 9) (.t 10))]) (.cond (.t 11) .skip (.exit 0))) c_ref09_TurnL0_1
abbrev c_ref09_Turn_4 : SC := .ret
abbrev c_ref09_Turn_3 : SC := .seq (.reg [o 34 (.mv (.t 5)), o 4 (.mv (.t 34))]) c_ref09_Turn_4
abbrev c_ref09_Turn_2 : SC := .seq (.seq (.reg [o 6 (.mv (ki 0))]) (.block 0 (.loop c_ref09_TurnL0_0))) c_ref09_Turn_3
abbrev c_ref09_Turn_1 : SC := .seq (.reg [o 5 (.mv (.k .nils))]) c_ref09_Turn_2
abbrev c_ref09_Turn_0 : SC := .seq (.reg [o 4 (.mv (.k .nils))]) c_ref09_Turn_1
theorem cf_ref09_Turn : cfun Go.Proofs.Try.prog md n_ref09_Turn = some ⟨2, 35, c_ref09_Turn_0.erase, [.t 4]⟩ := by kernel_rfl
-- ref09_Mul
abbrev c_ref09_MulL0_2 : SC := (.reg [o 34 (.mv (.t 10)), o 35 (.bin .add (.t 34) (ki 1)), o 10 (.mv (.t 35))])
abbrev c_ref09_MulL0_1 : SC := .seq (.block 1 (.reg [o 36 (.fadr (.t 9) 1), o 39 (.fadr (.t 4) 1), o 41 (.mv (.t 10)), o 44 (.fadr (.t 5) 1), o 46 (.fadr (.t 5) 0), o 37 (.ld (.t 36) 1 false), o 38 (.ld (.t 3) 3 true), o 40 (.ld (.t 39) 1 false), o 42 (.iadr (.t 40) (.t 41) 1), o 43 (.ld (.t 42) 1 false), o 45 (.ld (.t 44) 1 false), o 47 (.ld (.t 46) 1 false), om 1 48 (.call (.f n_ref09_Combine) [.t 38, .t 43, .t 45, .t 47]), o 49 (.mkl 1 1 [.nils] [(0, (1, .t 48))]), o 50 (.app (.t 37) (.t 49) 1), o 51 (.fadr (.t 9) 1), os (.st (.t 51) (.t 50) 1)])) c_ref09_MulL0_2
abbrev c_ref09_MulL0_0 : SC := .seq (.seq (.reg [o 29 (.mv (.t 10)), o 30 (.fadr (.t 4) 1), o 31 (.ld (.t 30) 1 false), o 32 (.len (.t 31)), o 33 (.bin .lss (.t 29) (.t 32))]) (.cond (.t 33) .skip (.exit 0))) c_ref09_MulL0_1
abbrev c_ref09_Mul_7 : SC := .ret
abbrev c_ref09_Mul_6 : SC := .seq (.reg [o 52 (.ld (.t 9) 2 true), os (.st (.t 6) (.t 52) 2), o 7 (.mv (ki 0))]) c_ref09_Mul_7
abbrev c_ref09_Mul_5 : SC := .seq (.seq (.reg [o 10 (.mv (ki 0))]) (.block 0 (.loop c_ref09_MulL0_0))) c_ref09_Mul_6
abbrev c_ref09_Mul_4 : SC := .seq (.reg [o 26 (.fadr (.t 5) 0), o 27 (.ld (.t 26) 1 false), o 28 (.build [I 0, .nils] [(0, (1, .t 27))]), o 9 (.new [I 0, .nils]), os (.st (.t 9) (.t 28) 2)]) c_ref09_Mul_5
abbrev c_ref09_Mul_3 : SC := .seq (.seq (.reg [o 19 (.fadr (.t 4) 0), o 20 (.ld (.t 19) 1 false), o 21 (.fadr (.t 5) 1), o 22 (.ld (.t 21) 1 false), o 23 (.len (.t 22)), o 24 (.bin .neq (.t 20) (.t 23))]) (.cond (.t 24) (.seq (.reg [o 25 (.build [I 0, .nils] []), os (.st (.t 6) (.t 25) 2), o 7 (.mv (ki 10))]) .ret) .skip)) c_ref09_Mul_4
abbrev c_ref09_Mul_2 : SC := .seq (.seq (.reg [o 15 (.mv (.t 8)), o 16 (.bin .neq (.t 15) (ki 0))]) (.cond (.t 16) (.seq (.reg [o 17 (.build [I 0, .nils] []), o 18 (.mv (.t 8)), os (.st (.t 6) (.t 17) 2), o 7 (.mv (.t 18))]) .ret) .skip)) c_ref09_Mul_3
abbrev c_ref09_Mul_1 : SC := .seq (.reg [o 11 (.ld (.t 3) 3 true), o 12 (.ld (.t 4) 2 true), o 13 (.ld (.t 5) 2 true), o 14 (.call (.f n_ref09_two) [.t 11, .t 12, .t 13]), o 8 (.mv (.t 14))]) c_ref09_Mul_2
abbrev c_ref09_Mul_0 : SC := .seq (.reg [o 3 (.box (.t 0)), o 4 (.box (.t 1)), o 5 (.box (.t 2)), o 6 (.new [I 0, .nils]), o 7 (.mv (ki 0))]) c_ref09_Mul_1
theorem cf_ref09_Mul : cfun Go.Proofs.Try.prog md n_ref09_Mul = some ⟨3, 53, c_ref09_Mul_0.erase, [.c 6 2 true, .t 7]⟩ := by kernel_rfl
-- ref09_two
abbrev c_ref09_two_4 : SC := .ret
abbrev c_ref09_two_3 : SC := .seq (.reg [o 14 (.ld (.t 3) 3 true), o 15 (.ld (.t 5) 2 true), o 16 (.call (.f n_ref09_Check) [.t 14, .t 15]), o 6 (.mv (.t 16))]) c_ref09_two_4
abbrev c_ref09_two_2 : SC := .seq (.seq (.reg [o 11 (.mv (.t 7)), o 12 (.bin .neq (.t 11) (ki 0))]) (.cond (.t 12) (.seq (.reg [o 13 (.mv (.t 7)), o 6 (.mv (.t 13))]) .ret) .skip)) c_ref09_two_3
abbrev c_ref09_two_1 : SC := .seq (.reg [o 8 (.ld (.t 3) 3 true), o 9 (.ld (.t 4) 2 true), o 10 (.call (.f n_ref09_Check) [.t 8, .t 9]), o 7 (.mv (.t 10))]) c_ref09_two_2
abbrev c_ref09_two_0 : SC := .seq (.reg [o 3 (.box (.t 0)), o 4 (.box (.t 1)), o 5 (.box (.t 2)), o 6 (.mv (ki 0))]) c_ref09_two_1
theorem cf_ref09_two : cfun Go.Proofs.Try.prog md n_ref09_two = some ⟨3, 17, c_ref09_two_0.erase, [.t 6]⟩ := by kernel_rfl
end Go.AM.Ytmihmgnjnedfcab
end

section
/- Contracts of functions: Transpose. -/
set_option maxRecDepth 100000
set_option linter.unusedSimpArgs false
set_option linter.unusedVariables false
namespace Go.AM.Ytmihmgnjnedfcab
open Go Go.AM
attribute [local simp ↓] awp_seq awp_reg awp_skip awp_cond' awp_block awp_exit awp_ret awp_fz thenW_normal thenW_exit thenW_ret inBlk_normal inBlk_exit inBlk_ret aops_cons' contA_ap aops_nil e_mv e_guard' e_pick' e_ld' e_app e_cpy e_st' e_call callW_f updO_some updO_none e_bin' e_isnil' e_fadr' e_iadr' e_iarr' e_len' e_build' e_mkf' e_nc' e_not' e_neg' e_cvt' e_slc' e_fld' e_ext' e_min' e_eqs' e_new e_box e_mkl e_mks
attribute [local simp] upd_apply ev_t ev_k ev_f binA_add binA_sub binA_mul binA_quo binA_rem binA_eql binA_neq binA_lss binA_leq binA_gtr binA_geq det mem frame0 keeps_nil iadrA_sl fadrA_ref fadrA_fp ldv_agg ldv_one cells_base hset_same hset_hset lenA_fs lenA_sl lenA_nils zeros_ints ints_length one_base one_nilp one_nils one_ref one_sl one_fp one_fs one_fn gl_one resA resOf bound natOf afill splice AV.cells cells_agg bindR_some condR_true condR_false guardR_tup guardR_true guardR_true' guardR_false guardR_false' allocW_some pickA_true pickA_false
open Go.FM

section
variable {h h' : Hp} {o n : Nat} {bs : Nat → Nat} {cs : List AV} {X : Nat → List Int}
theorem QM.grow (q : QM h h' o bs n cs X) {h2 : Hp} (kp : Kp h' h2) : QM h h2 o bs n cs X :=
  ⟨q.kp.trans kp, q.ho, kp _ _ q.out, q.len, fun i hi => (q.cell i hi).imp id fun ⟨c1, c2, c3, c4⟩ => ⟨c1, kp _ _ c2, c3, c4⟩, q.inj⟩
/-- A row is told anew. -/
theorem QM.row (q : QM h h' o bs n cs X) {k : Nat} (hk : k < n) {l : List Int} (hl : l.length = (X k).length) (hc : cs.getD k .nils ≠ .nils) : QM h (hset h' (bs k) (ints l)) o bs n cs (fun i => if i = k then l else X i) := by
  obtain ⟨k1, k2, k3, k4⟩ : cs.getD k .nils = .sl (bs k) 0 (X k).length 1 ∧ h' (bs k) = some (ints (X k)) ∧ h (bs k) = none ∧ bs k ≠ o := by
    rcases q.cell k hk with ⟨e, _⟩ | e
    · exact absurd e hc
    · exact e
  refine ⟨q.kp.set k3 _, q.ho, by rw [hset_ne _ _ (Ne.symm k4)]; exact q.out, q.len, fun i hi => ?_, q.inj⟩
  by_cases e : i = k
  · subst e
    rw [if_pos rfl]
    exact .inr ⟨by rw [hl]; exact k1, hset_same .., k3, k4⟩
  · rw [if_neg e]
    rcases q.cell i hi with hh | ⟨c1, c2, c3, c4⟩
    · exact .inl hh
    · refine .inr ⟨c1, ?_, c3, c4⟩
      rw [hset_ne _ _ (q.inj i k hi hk e (by rw [c1]; exact fun h => by cases h) hc)]
      exact c2
theorem QM.lv2 {J : List (List Int)} (q : QM h h' o bs n cs X) (hJ : J.length = n) (hX : ∀ i, i < n → X i = J.getD i [] ∧ cs.getD i .nils ≠ .nils) : LV h h' o bs J := by
  have hc : ∀ i, i < n → cs.getD i .nils = .sl (bs i) 0 (J.getD i []).length 1 ∧ h' (bs i) = some (ints (J.getD i [])) ∧ h (bs i) = none ∧ bs i ≠ o := fun i hi => by
    obtain ⟨x1, x2⟩ := hX i hi
    rcases q.cell i hi with ⟨hc, _⟩ | hc
    · exact absurd hc x2
    · rw [x1] at hc; exact hc
  refine ⟨⟨fun i j hi hj hij => q.inj i j (by omega) (by omega) hij (hX i (by omega)).2 (hX j (by omega)).2, fun i hi => (hc i (by omega)).2.2.2, ?_, fun i hi => (hc i (by omega)).2.1⟩, q.kp, q.ho, fun i hi => (hc i (by omega)).2.2.1⟩
  rw [q.out]
  congr 1
  have hl := q.len
  refine List.ext_getElem (by simp; omega) fun i h1 h2 => ?_
  have := (hc i (by omega)).1
  simp only [List.getElem_map, List.getElem_range]
  rw [← this]
  simp [List.getD, h1]
end

/-- The columns of rows. -/
def colL (L : List (List Int)) (j : Nat) : List Int := L.map fun row => row.getD j 0
def trL (L : List (List Int)) (n : Nat) : List (List Int) := (List.range n).map (colL L)
theorem trL_len (L : List (List Int)) (n : Nat) : (trL L n).length = n := by simp [trL]
theorem colL_len (L : List (List Int)) (j : Nat) : (colL L j).length = L.length := by simp [colL]
theorem trL_get {L : List (List Int)} {n j : Nat} (hj : j < n) : (trL L n).getD j [] = colL L j := by simp [trL, List.getD, hj]
theorem colL_get {L : List (List Int)} {i j : Nat} (hi : i < L.length) : (colL L j).getD i 0 = (L.getD i []).getD j 0 := map_getD' (fun row : List Int => row.getD j 0) L i ([] : List Int) (0 : Int) hi
noncomputable def trnR (p m : Int) (mo : List Int) (c : Int) (L : List (List Int)) : AV :=
  if openE p m mo [(c, L)] = 0 then .tup [.agg [I L.length, .fs c.toNat ((trL L c.toNat).map frow)], I 0] else .tup [.agg [I 0, .nils], I (openE p m mo [(c, L)])]

set_option maxHeartbeats 4000000 in
theorem s_Transpose {p m : Int} {mv v : AV} {mo : List Int} (hmv : IL mv mo) (hml : mo.length < 4611686018427387904) {c : Int} {L : List (List Int)} (hv : ML v L) (hs : MSm L) :
    Pure prog n_matrix_Transpose [.agg [I p, I m, mv], .agg [I c, v]] (trnR p m mo c L) := by
  refine pure_of cf_matrix_Transpose rfl fun h => ?_
  have hone := hmv.one
  have hone2 := hv.one
  unfold c_matrix_Transpose_0 c_matrix_Transpose_1
  generalize hC : c_matrix_Transpose_2 = C2
  simp [hone, hone2]
  intro b2 hb2 b3 hb3 b4 hb4
  obtain ⟨g2, g3, g4, hk, n4⟩ := three_boxes (zs := [I 0, .nils]) hb2 hb3 hb4
  generalize hset (hset (hset h b2 [I p, I m, mv]) b3 [I c, v]) b4 [I 0, .nils] = g at *
  obtain ⟨_, _, _, l2⟩ := ld3_at g2
  have l3 := lq_both g3
  simp [l2, l3, hone2]
  intro b hb
  refine (open1 (p := p) (m := m) hmv hml hv hs (hset_same ..)).call ?_
  have hkb : Kp g (hset g b [I c, v]) := (Kp.refl g).new hb _
  have g3 := hkb _ _ g3
  have g4 := hkb _ _ g4
  have hk := hk.trans hkb
  clear hkb hb l2 l3
  generalize hset g b [I c, v] = G at *
  have l30 := lq_fst g3
  have l31 := lq_snd g3
  have st0 := fun R => sr_all (R := R) (cs' := [I 0, .nils]) g4 (n := 2) rfl rfl rfl
  rw [hset_id g4] at st0
  have l4 := lq_both g4
  unfold openR trnR
  by_cases he : openE p m mo [(c, L)] = 0
  case neg =>
    rw [if_neg he, if_neg he]
    generalize openE p m mo [(c, L)] = e at *
    simp [he, st0, l4]
    exact ⟨_, hk.sub, .id _, rfl⟩
  rw [if_pos he, if_pos he]
  obtain ⟨hf, n, rfl, hn, hLn, hM⟩ := openE_one he
  rw [Int.toNat_natCast]
  have hn' : (n : Int) ≤ 4294967296 := by omega
  simp
  subst hC
  unfold c_matrix_Transpose_2
  generalize hC : c_matrix_Transpose_3 = C3
  simp [l30, l31, hv.len, hn', one_nils]
  intro b28 hb28
  rw [zeros_nils]
  have q0 := QM.start (h := G) hb28 n
  have hK : Kp G (hset G b28 (List.replicate n .nils)) := (Kp.refl G).new hb28 _
  generalize hset G b28 (List.replicate n .nils) = G2 at *
  intro b8 hb8
  have sra := fun R => sr_all (R := R) (cs' := [I L.length, .sl b28 0 n 1]) (hset_same G2 b8 [I 0, .nils]) (n := 2) rfl rfl rfl
  simp [sra]
  have g8 := hset_same G2 b8 [I L.length, .sl b28 0 n 1]
  have q1 := q0.grow ((Kp.refl G2).new hb8 [I L.length, .sl b28 0 n 1])
  have n8 : G b8 = none := hK.no hb8
  have h828 : b8 ≠ b28 := fun he => by have := q0.out; rw [← he, hb8] at this; cases this
  clear q0 sra hb8 hK st0 l4
  generalize hset G2 b8 [I L.length, .sl b28 0 n 1] = H at *
  have l81 := lq_snd g8
  subst hC
  unfold c_matrix_Transpose_3
  generalize hC : c_matrix_Transpose_4 = C4
  simp [l81]
  refine awp_for n (fun j fr' h' => (∃ bs cs X, QM G h' b28 bs n cs X ∧ (∀ i, i < j → X i = colL L i ∧ cs.getD i .nils ≠ .nils) ∧ h' b8 = some [I L.length, .sl b28 0 n 1] ∧ ∀ i, i < n → cs.getD i .nils ≠ .nils → bs i ≠ b8) ∧ fr' 33 = I j) ⟨⟨_, _, _, q1, fun i hi => by omega, g8, fun i hi hne => absurd (by simp [List.getD, hi]) hne⟩, by simp⟩ ?_
  clear q1 g8 l81
  intro j fr1 h1 hjn hk0 ⟨⟨bs, cs, X, q, hX, g8, hb8⟩, k33⟩
  have k3 := hk0 3 (by decide)
  have k4 := hk0 4 (by decide)
  have k8 := hk0 8 (by decide)
  have k32 := hk0 32 (by decide)
  simp at k3 k4 k8 k32
  clear hk0
  by_cases hlt : j < n
  · have u1 : IntKind.i64.wrap ((j : Int) + 1) = j + 1 := w64 _ (by omega)
    have hlt' : (j : Int) < n := by omega
    have hL' : (L.length : Int) ≤ 4294967296 := by omega
    have l81 := lq_snd g8
    have l31' := lq_snd (q.kp _ _ g3)
    unfold c_matrix_TransposeL0_0 c_matrix_TransposeL0_1 c_matrix_TransposeL0_2 c_matrix_TransposeB1_0 c_matrix_TransposeB1_1
    generalize hB2 : c_matrix_TransposeB1_2 = B2
    simp [k32, k33, hlt, k8, k3, l81, l31', hv.len, hL']
    intro b42 hb42
    have hbG : G b42 = none := q.kp.no hb42
    have kk : Kp h1 (hset h1 b42 (ints (List.replicate L.length 0))) := (Kp.refl h1).new hb42 _
    have ho42 : b42 ≠ b28 := fun he => by have := q.out; rw [← he, hb42] at this; cases this
    have h842 : b8 ≠ b42 := fun he => by rw [he, hb42] at g8; cases g8
    obtain ⟨s1, s2⟩ := q.upd hlt (h2 := hset h1 b42 (ints (List.replicate L.length 0))) (b := b42) (c := .sl b42 0 L.length 1) (l := List.replicate L.length 0)
      (q.kp.trans kk) (kk _ _ q.out) (fun i hi hik hne => by
        rcases q.cell i hi with ⟨e, _⟩ | ⟨c1, c2, _, _⟩
        · exact absurd e hne
        · rw [c2]; exact kk _ _ c2) (.inr ⟨by simp, hset_same .., hbG, ho42⟩) (fun _ i hi hik hne he => by
        rcases q.cell i hi with ⟨e, _⟩ | ⟨c1, c2, _, _⟩
        · exact hne e
        · rw [he, hb42] at c2; cases c2)
    have g8' : (hset (hset h1 b42 (ints (List.replicate L.length 0))) b28 (cs.set j (.sl b42 0 L.length 1))) b8 = some [I L.length, .sl b28 0 n 1] := by
      rw [hset_ne _ _ h828, hset_ne _ _ h842]; exact g8
    have hlen := q.len
    have hcj : (cs.set j (.sl b42 0 L.length 1)).getD j .nils = .sl b42 0 L.length 1 := by rw [getD_set, if_pos ⟨rfl, by omega⟩]
    have hX2 : ∀ i, i < j → (fun i => if i = j then List.replicate L.length 0 else X i) i = colL L i ∧ (cs.set j (.sl b42 0 L.length 1)).getD i .nils ≠ .nils := fun i hi => by
      have e : i ≠ j := by omega
      simp only [e, if_false]
      refine ⟨(hX i hi).1, ?_⟩
      rw [getD_set, if_neg (by omega)]; exact (hX i hi).2
    have hb82 : ∀ i, i < n → (cs.set j (.sl b42 0 L.length 1)).getD i .nils ≠ .nils → (fun i => if i = j then b42 else bs i) i ≠ b8 := fun i hi hne => by
      by_cases e : i = j
      · simp only [e, if_pos]; exact Ne.symm h842
      · simp only [e, if_false]
        rw [getD_set, if_neg (by omega)] at hne
        exact hb8 i hi hne
    have hXj : (fun i => if i = j then List.replicate L.length 0 else X i) j = List.replicate L.length (0 : Int) := by simp
    have hbj : (fun i => if i = j then b42 else bs i) j = b42 := by simp
    simp [s1]
    clear s1 hX hb8 kk g8
    generalize hset (hset h1 b42 (ints (List.replicate L.length 0))) b28 (cs.set j (.sl b42 0 L.length 1)) = H1 at *
    generalize cs.set j (.sl b42 0 L.length 1) = cs2 at *
    generalize (fun i => if i = j then List.replicate L.length (0 : Int) else X i) = X2 at *
    generalize (fun i => if i = j then b42 else bs i) = bs2 at *
    have l31' := lq_snd (s2.kp _ _ g3)
    subst hB2
    unfold c_matrix_TransposeB1_2 c_matrix_TransposeB1_3
    simp [k3, l31', hv.len]
    refine awp_for L.length (fun i fr' h' => (∃ X, QM G h' b28 bs2 n cs2 X ∧ (∀ i, i < j → X i = colL L i) ∧ X j = (colL L j).take i ++ (List.replicate L.length 0).drop i ∧ h' b8 = some [I L.length, .sl b28 0 n 1]) ∧ fr' 47 = I i) ⟨⟨X2, s2, fun i hi => (hX2 i hi).1, by rw [hXj]; simp, g8'⟩, by simp⟩ ?_
    clear s2 g8' hXj
    have hX2' := fun i hi => (hX2 i hi).2
    clear hX2
    intro i fr2 h2 hin hk0 ⟨⟨X3, q3, hX3, hXj, g8⟩, k47⟩
    have m8 := hk0 8 (by decide)
    have m9 := hk0 9 (by decide)
    have m33 := hk0 33 (by decide)
    have m45 := hk0 45 (by decide)
    have m46 := hk0 46 (by decide)
    simp [k8, k33] at m8 m9 m33 m45 m46
    clear hk0
    have hNl := colL_len L j
    have hNg := fun i hi => colL_get (L := L) (i := i) (j := j) hi
    have hzl : (List.replicate L.length (0 : Int)).length = L.length := by simp
    by_cases hlt2 : i < L.length
    · have u2 : IntKind.i64.wrap ((i : Int) + 1) = i + 1 := w64 _ (by omega)
      have hlt2' : (i : Int) < L.length := by omega
      obtain ⟨pa, row, hpa, hpl, hrow⟩ := hv.rd hlt2
      have hrl := hM.len hlt2
      have hia := hrow.iadr (i := j) ⟨by omega, by omega⟩
      rw [Int.toNat_natCast] at hia
      have hld := fun h' => ld_ints (h := h') (l := L.getD i []) (k := j) (by omega)
      rw [← hNg i hlt2] at hld
      have l81 := lq_snd g8
      have hlc : cellsAt h2 (.ref b28 j) 1 = some [.sl b42 0 L.length 1] := by
        rw [ld_one_at q3.out (by rw [q3.len]; exact hlt), hcj]
      have hne : cs2.getD j .nils ≠ .nils := by rw [hcj]; exact fun h => by cases h
      have hrd : h2 b42 = some (ints (X3 j)) := by
        rcases q3.cell j hlt with ⟨e, _⟩ | ⟨_, e, _, _⟩
        · exact absurd e hne
        · rwa [hbj] at e
      rw [hXj] at hrd
      have hXl : (X3 j).length = L.length := by rw [hXj, tk_len (by omega) (by omega)]; omega
      have hst := fun R => sr_ints (R := R) (v := (colL L j).getD i 0) hrd (k := i) (by rw [tk_len (by omega) (by omega)]; omega)
      rw [tk_set (by omega) (by omega)] at hst
      have q4 := q3.row hlt (l := (colL L j).take (i + 1) ++ (List.replicate L.length 0).drop (i + 1)) (by rw [hXl, tk_len (by omega) (by omega)]; omega) hne
      rw [hbj] at q4
      have hb8' := hb82 j hlt hne
      rw [hbj] at hb8'
      generalize (colL L j).getD i 0 = y at *
      generalize L.getD i [] = rl at *
      generalize hnew : (colL L j).take (i + 1) ++ (List.replicate L.length 0).drop (i + 1) = nl at *
      simp [m8, m9, m45, m46, k47, hlt2, hlt2', hpa, hpl, hia, hld, l81, hlt, hlt', hlc, hst, u2]
      refine ⟨_, q4, fun i' hi' => ?_, ?_, ?_⟩
      · rw [if_neg (by omega)]; exact hX3 i' hi'
      · rw [if_pos rfl]
      · rw [hset_ne _ _ (Ne.symm hb8')]; exact g8
    · have hiL : i = L.length := by omega
      rw [hiL, List.take_of_length_le (by omega), List.drop_eq_nil_of_le (by simp), List.append_nil] at hXj
      simp [m46, k47, hiL, m33, u1, hlt]
      refine ⟨_, _, _, q3, fun i' hi' => ?_, g8, hb82⟩
      show X3 i' = colL L i' ∧ cs2.getD i' AV.nils ≠ AV.nils
      by_cases e : i' = j
      · rw [e]; exact ⟨hXj, by rw [hcj]; exact fun h => by cases h⟩
      · exact ⟨hX3 i' (by omega), hX2' i' (by omega)⟩
  · have hjn' : j = n := by omega
    subst hjn'
    have lv := q.lv2 (J := trL L j) (trL_len ..) fun i hi => by rw [trL_get hi]; exact hX i hi
    have l8 := lq_both g8
    have g4' := q.kp _ _ g4
    have st := fun R => sr_all (R := R) (cs' := [I L.length, .sl b28 0 j 1]) g4' (n := 2) rfl rfl rfl
    have l4 := lq_both (hset_same h1 b4 [I L.length, .sl b28 0 j 1])
    have fz := ((lv.set g4 [I L.length, .sl b28 0 j 1]).mono (hk.set n4 _)).frzP (r := j) (by rw [trL_len]; exact Nat.le_refl j)
    rw [List.take_of_length_le (by rw [trL_len]; exact Nat.le_refl j)] at fz
    simp [k32, k33]
    subst hC
    simp [k4, k8, l8, st, l4]
    exact RetP.tup fz.1 rfl (frz2 (.agg _ _ rfl (frz2 (.id _) fz.2)) (.id _))
end Go.AM.Ytmihmgnjnedfcab
end

section
/- Products and transposes, as linear algebra. No code is walked here. -/
set_option maxRecDepth 100000
set_option linter.unusedSimpArgs false
set_option linter.unusedVariables false
namespace Go.AM.Ytmihmgnjnedfcab
open Go Go.AM Go.FM Go.LA

section
variable {F : FB} {ca nb : Nat} {A B : List (List Int)}

theorem mulL_len (D : Ds) (A B : List (List Int)) (n : Nat) : (mulL D A B n).length = A.length := by simp [mulL]
theorem mulL_get {D : Ds} {A B : List (List Int)} {n i : Nat} (hi : i < A.length) : (mulL D A B n).getD i [] = combK D (A.getD i []) B n (A.getD i []).length := map_getD' (fun row => combK D row B n row.length) A i [] [] hi
theorem mulL_mat (A B : List (List Int)) (n : Nat) : Mat F.D n (mulL F.D A B n) := fun row hr => by
  obtain ⟨r, _, rfl⟩ := List.mem_map.1 hr
  exact ⟨combK_len .., combK_R F.r.toOk _ _ _ _⟩
theorem mtx_mul (hA : Mat F.D B.length A) (hB : Mat F.D nb B) {i : Nat} (hi : i < A.length) (j : Nat) : mtx F (mulL F.D A B nb) i j = mm B.length (mtx F A) (mtx F B) i j := by
  show vc F ((mulL F.D A B nb).getD i []) j = _
  rw [mulL_get hi, hA.len hi, vc_combK (fun k hk => hB.len hk) _ _ (Nat.le_refl _)]
  rfl
theorem trL_mat {n : Nat} {L : List (List Int)} (hL : Mat F.D n L) : Mat F.D L.length (trL L n) := fun row hr => by
  obtain ⟨j, _, rfl⟩ := List.mem_map.1 hr
  refine ⟨colL_len L j, fun x hx => ?_⟩
  obtain ⟨row, hr, rfl⟩ := List.mem_map.1 hx
  by_cases hj : j < row.length
  · exact (hL row hr).2 _ (mem_getD hj)
  · rw [getD_out (by omega)]; exact F.r.toOk.q0
theorem mtx_tr {n : Nat} {L : List (List Int)} {i j : Nat} (hi : i < n) (hj : j < L.length) : mtx F (trL L n) i j = mtx F L j i := by
  show toK F (((trL L n).getD i []).getD j 0) = toK F ((L.getD j []).getD i 0)
  rw [trL_get hi, colL_get hj]

/-- The transpose of a product. -/
theorem tr_mul (hA : Mat F.D B.length A) (hB : Mat F.D nb B) : trL (mulL F.D A B nb) nb = mulL F.D (trL B nb) (trL A B.length) A.length := by
  have hP := mulL_mat (F := F) A B nb
  have h1 := trL_mat (F := F) hP
  have hT := trL_mat (F := F) hB
  have hS := trL_mat (F := F) hA
  rw [mulL_len] at h1
  have hT' : Mat F.D (trL A B.length).length (trL B nb) := by rw [trL_len]; exact hT
  refine mtx_ext (F := F) (w := A.length) h1 (mulL_mat (F := F) (trL B nb) (trL A B.length) A.length) (by rw [trL_len, mulL_len, trL_len]) fun i j hi hj => ?_
  rw [trL_len] at hi
  rw [mtx_tr hi (by rw [mulL_len]; exact hj), mtx_mul hA hB hj, mtx_mul hT' hS (by rw [trL_len]; exact hi), trL_len]
  unfold mm
  refine Sm_congr fun k hk => ?_
  rw [mtx_tr hi hk, mtx_tr hk hj, LA.mul_comm]
/-- Products are associative. -/
theorem mul_assocL {nc : Nat} {C : List (List Int)} (hA : Mat F.D B.length A) (hB : Mat F.D C.length B) (hC : Mat F.D nc C) : mulL F.D (mulL F.D A B C.length) C nc = mulL F.D A (mulL F.D B C nc) nc := by
  have hP := mulL_mat (F := F) A B C.length
  have hQ := mulL_mat (F := F) B C nc
  have hQl := mulL_len F.D B C nc
  refine mtx_ext (F := F) (w := nc) (mulL_mat (F := F) _ C nc) (mulL_mat (F := F) A _ nc) (by rw [mulL_len, mulL_len, mulL_len]) fun i j hi hj => ?_
  rw [mulL_len, mulL_len] at hi
  rw [mtx_mul hP hC (by rw [mulL_len]; exact hi), mtx_mul (by rw [hQl]; exact hA) hQ hi, hQl]
  have e := mm_assoc C.length B.length (mtx F A) (mtx F B) (mtx F C)
  have e2 := congrFun (congrFun e i) j
  rw [mm_congr (A' := mm B.length (mtx F A) (mtx F B)) (B' := mtx F C) (fun k hk => mtx_mul hA hB hi k) (fun k hk => rfl), e2]
  exact mm_congr (fun k hk => rfl) fun k hk => (mtx_mul hB hC hk j).symm
/-- The rank of a product. -/
theorem rank_mul (hA : Mat F.D B.length A) (hB : Mat F.D nb B) : rkN F.D (mulL F.D A B nb) nb ≤ rkN F.D A B.length ∧ rkN F.D (mulL F.D A B nb) nb ≤ rkN F.D B nb := by
  have hP := mulL_mat (F := F) A B nb
  have hPl := mulL_len F.D A B nb
  obtain ⟨_, p2⟩ := can_sp hP
  have hred := can_red hP nb
  have hle := hred.le
  have key : ∀ k (V : Mt (El F)), (∀ i, i < A.length → Sp k nb V (mtx F (mulL F.D A B nb) i)) → rkN F.D (mulL F.D A B nb) nb ≤ k := fun k V h =>
    hred.rank_le fun i hi => by
      have := p2 i hi
      rw [hPl] at this
      exact (Sp.trans h this).cng fun j _ => by rw [can_row hi]
  obtain ⟨a1, _⟩ := can_sp hA
  obtain ⟨b1, _⟩ := can_sp hB
  refine ⟨key _ (mm B.length (mtx F (canL F.D A B.length)) (mtx F B)) fun i hi => ?_, key _ (mtx F (canL F.D B nb)) fun i hi => ?_⟩
  · obtain ⟨t, ht⟩ := a1 i hi
    refine ⟨t, fun j hj => ?_⟩
    rw [mtx_mul hA hB hi]
    unfold mm
    rw [Sm_congr (g := fun k => Sm (rkN F.D A B.length) fun q => t q * (mtx F (canL F.D A B.length) q k * mtx F B k j)) fun k hk => by
      rw [ht k hk, ← Sm_mulr]; exact Sm_congr fun q _ => LA.mul_assoc _ _ _]
    rw [Sm_comm]
    exact Sm_congr fun q _ => Sm_mul _ _ _
  · refine Sp.trans b1 ⟨mtx F A i, fun j hj => ?_⟩
    rw [mtx_mul hA hB hi]; rfl
end
end Go.AM.Ytmihmgnjnedfcab
end

section
/- Results that are matrices; products, transposes and ranks of matrices over a field. -/
set_option maxRecDepth 100000
set_option linter.unusedSimpArgs false
set_option linter.unusedVariables false
namespace Go.AM.Ytmihmgnjnedfcab
open Go Go.AM
attribute [local simp ↓] awp_seq awp_reg awp_skip awp_cond' awp_block awp_exit awp_ret awp_fz thenW_normal thenW_exit thenW_ret inBlk_normal inBlk_exit inBlk_ret aops_cons' contA_ap aops_nil e_mv e_guard' e_pick' e_ld' e_app e_cpy e_st' e_call callW_f updO_some updO_none e_bin' e_isnil' e_fadr' e_iadr' e_iarr' e_len' e_build' e_mkf' e_nc' e_not' e_neg' e_cvt' e_slc' e_fld' e_ext' e_min' e_eqs' e_new e_box e_mkl e_mks
attribute [local simp] upd_apply ev_t ev_k ev_f binA_add binA_sub binA_mul binA_quo binA_rem binA_eql binA_neq binA_lss binA_leq binA_gtr binA_geq det mem frame0 keeps_nil iadrA_sl fadrA_ref fadrA_fp ldv_agg ldv_one cells_base hset_same hset_hset lenA_fs lenA_sl lenA_nils zeros_ints ints_length one_base one_nilp one_nils one_ref one_sl one_fp one_fs one_fn gl_one resA resOf bound natOf afill splice AV.cells cells_agg bindR_some condR_true condR_false guardR_tup guardR_true guardR_true' guardR_false guardR_false' allocW_some pickA_true pickA_false
open Go.FM

/-- A matrix's rows that a function returned. -/
structure MVr (mv : AV) (M : List (List Int)) : Prop where
  ml : ML mv M
  sm : MSm M
  cells : mv.cells = [mv]
  one : one mv = true
theorem MVr.nils : MVr .nils [] := ⟨ML_gml [], ⟨by decide, fun r hr => by cases hr⟩, rfl, rfl⟩
theorem MVr.gml {M : List (List Int)} (h : MSm M) : MVr (gml M) M := ⟨ML_gml M, h, by unfold AM.Ytmihmgnjnedfcab.gml gl; split <;> rfl, by unfold AM.Ytmihmgnjnedfcab.gml gl; split <;> rfl⟩
theorem MVr.fs {M : List (List Int)} (h : MSm M) : MVr (.fs M.length (M.map frow)) M := ⟨ML_fs M, h, rfl, rfl⟩
theorem MVr.same {x y : AV} {M : List (List Int)} (a : MVr x M) (b : MVr y M) (c : Int) : Pure prog n_ref09_Same [.agg [I c, x], .agg [I c, y]] (B true) := by
  have := s_Same (c := c) (d := c) a.ml b.ml a.sm.1 (fun i hi => a.sm.2 _ (mem_getD hi))
  rwa [decide_eq_true ⟨rfl, rfl⟩] at this
theorem MVr.st {x : AV} {M : List (List Int)} (a : MVr x M) {h : Hp} {b : Nat} {c : Int} {R : AV → Hp → Prop} : stR (.ref b 0) (.agg [I c, x]) 2 (hset h b [I 0, .nils]) R = R (.tup []) (hset h b [I c, x]) := st_box2 a.cells a.one
theorem MVr.sr {x : AV} {M : List (List Int)} (a : MVr x M) {h : Hp} {b : Nat} {c : Int} {y z : AV} (hb : h b = some [y, z]) (R : AV → Hp → Prop) : stR (.ref b 0) (.agg [I c, x]) 2 h R = R (.tup []) (hset h b [I c, x]) :=
  sr_all hb (n := 2) rfl rfl (by show (AM.one (I c) && (AM.one x && true)) = true; rw [a.one]; rfl)


theorem four_boxes {h : Hp} {b2 b3 b4 : Nat} {xs ys zs : List AV} (hb2 : h b2 = none) (hb3 : hset h b2 xs b3 = none) (hb4 : hset (hset h b2 xs) b3 ys b4 = none) :
    (hset (hset (hset h b2 xs) b3 ys) b4 zs) b2 = some xs ∧ (hset (hset (hset h b2 xs) b3 ys) b4 zs) b3 = some ys ∧ (hset (hset (hset h b2 xs) b3 ys) b4 zs) b4 = some zs ∧ Kp h (hset (hset (hset h b2 xs) b3 ys) b4 zs) := by
  obtain ⟨a, b, c, d, _⟩ := three_boxes (zs := zs) hb2 hb3 hb4
  exact ⟨a, b, c, d⟩
theorem openE_mat2 {p m : Int} {mo : List Int} {n n2 : Nat} {A B : List (List Int)} (hf : FieldP p m mo) (hn : n ≤ 256) (hl : A.length ≤ 256) (hM : Mat (mkD p m mo) n A) (hn2 : n2 ≤ 256) (hl2 : B.length ≤ 256) (hM2 : Mat (mkD p m mo) n2 B) : openE p m mo [((n : Int), A), ((n2 : Int), B)] = 0 := by
  have e : ∀ {n : Nat} {L : List (List Int)}, n ≤ 256 → L.length ≤ 256 → Mat (mkD p m mo) n L → chkE (mkD p m mo) n L = 0 := fun {n L} hn hl hM => by
    unfold chkE
    rw [if_neg (by omega), if_neg (fun hh => hh fun row hr => by rw [(hM row hr).1]), if_pos fun row hr x hx => (hM row hr).2 x hx]
  unfold openE
  rw [if_pos hf]
  simp only [chkAll]
  rw [if_neg (by simpa using e hn hl hM), if_neg (by simpa using e hn2 hl2 hM2)]
theorem chk_mat {D : Ds} {c : Int} {L : List (List Int)} (h : chkE D c L = 0) : ∃ n : Nat, c = n ∧ n ≤ 256 ∧ L.length ≤ 256 ∧ Mat D n L := by
  obtain ⟨h1, h2, h3, h4, h5⟩ := chkE_zero h
  refine ⟨c.toNat, by omega, by omega, h3, fun row hr => ⟨?_, h5 row hr⟩⟩
  have := h4 row hr; omega

section
variable {p m : Int} {mo : List Int} {mv : AV}
theorem mul_ok (hmv : IL mv mo) (hml : mo.length < 4611686018427387904) (hf : FieldP p m mo) {U W : List (List Int)} {n : Nat} {u w : AV} (hu : ML u U) (hw : ML w W) (hU : Mat (mkD p m mo) W.length U) (hW : Mat (mkD p m mo) n W) (h1 : U.length ≤ 256) (h2 : W.length ≤ 256) (h3 : n ≤ 256) :
    Pure prog n_matrix_Mul [.agg [I p, I m, mv], .agg [I W.length, u], .agg [I n, w]] (.tup [.agg [I n, gml (mulL (mkD p m mo) U W n)], I 0]) := by
  have := s_matMul (p := p) (m := m) hmv hml (ca := W.length) (cb := n) hu hw (mat_sm h2 h1 hU) (mat_sm h3 h2 hW)
  have hE := openE_mat2 hf h2 h1 hU h3 h2 hW
  have hm : mulE p m mo W.length U n W = 0 := by unfold mulE; rw [if_neg (by simpa using hE), if_neg (by simp)]
  unfold mulR at this
  rwa [if_pos hm, Int.toNat_natCast] at this
theorem trn_ok (hmv : IL mv mo) (hml : mo.length < 4611686018427387904) (hf : FieldP p m mo) {L : List (List Int)} {n : Nat} {v : AV} (hv : ML v L) (hM : Mat (mkD p m mo) n L) (h1 : L.length ≤ 256) (h2 : n ≤ 256) :
    Pure prog n_matrix_Transpose [.agg [I p, I m, mv], .agg [I n, v]] (.tup [.agg [I L.length, .fs n ((trL L n).map frow)], I 0]) := by
  have := s_Transpose (p := p) (m := m) hmv hml (c := n) hv (mat_sm h2 h1 hM)
  unfold trnR at this
  rwa [if_pos (openE_mat hf h2 h1 hM), Int.toNat_natCast] at this
theorem rank_ok (hmv : IL mv mo) (hml : mo.length < 4611686018427387904) (hf : FieldP p m mo) {L : List (List Int)} {n : Nat} {v : AV} (hv : ML v L) (hM : Mat (mkD p m mo) n L) (h1 : L.length ≤ 256) (h2 : n ≤ 256) :
    Pure prog n_matrix_Rank [.agg [I p, I m, mv], .agg [I n, v]] (.tup [I (rkN (mkD p m mo) L n), I 0]) := by
  have := s_Rank (p := p) (m := m) hmv hml (c := n) hv (mat_sm h2 h1 hM)
  unfold rankR at this
  rwa [if_pos (openE_mat hf h2 h1 hM), Int.toNat_natCast] at this
end
end Go.AM.Ytmihmgnjnedfcab
end

section
/- Determinants, as linear algebra. No code is walked here. -/
set_option maxRecDepth 100000
set_option linter.unusedSimpArgs false
set_option linter.unusedVariables false
namespace Go.AM.Ytmihmgnjnedfcab
open Go Go.AM Go.FM Go.LA

section
variable {p m : Int} {mo : List Int}
theorem detV_R (r : Fd (mkD p m mo)) (n : Nat) (L : List (List Int)) : (mkD p m mo).R (detV p m mo n L) := by
  unfold detV
  split
  · exact r.toOk.q0
  · exact elim_det r.toOk L _
theorem detV_dt (r : Fd (mkD p m mo)) {n : Nat} {L : List (List Int)} (hM : Mat (mkD p m mo) n L) (hl : L.length = n) : toK ⟨mkD p m mo, r⟩ (detV p m mo n L) = dt n (mtx ⟨mkD p m mo, r⟩ L) := by
  have := det_elim (F := ⟨mkD p m mo, r⟩) hM hl
  rw [← this]
  unfold detV
  rw [Int.toNat_natCast]
theorem detV_mul (r : Fd (mkD p m mo)) {n : Nat} {U W : List (List Int)} (hU : Mat (mkD p m mo) n U) (hW : Mat (mkD p m mo) n W) (lU : U.length = n) (lW : W.length = n) : detV p m mo n (mulL (mkD p m mo) U W n) = (mkD p m mo).mul (detV p m mo n U) (detV p m mo n W) := by
  refine toK_inj (F := ⟨mkD p m mo, r⟩) (detV_R r n _) (r.toOk.mulR _ _) ?_
  have hP := mulL_mat (F := ⟨mkD p m mo, r⟩) U W n
  rw [toK_mul, detV_dt r hU lU, detV_dt r hW lW, ← dt_mul, detV_dt r hP (by rw [mulL_len, lU])]
  refine dt_congr fun i j hi hj => ?_
  have := mtx_mul (F := ⟨mkD p m mo, r⟩) (A := U) (B := W) (by rw [lW]; exact hU) hW (i := i) (by omega) j
  rw [lW] at this
  exact this
theorem detV_tr (r : Fd (mkD p m mo)) {n : Nat} {L : List (List Int)} (hM : Mat (mkD p m mo) n L) (hl : L.length = n) : detV p m mo n (trL L n) = detV p m mo n L := by
  refine toK_inj (F := ⟨mkD p m mo, r⟩) (detV_R r n _) (detV_R r n _) ?_
  have hT := trL_mat (F := ⟨mkD p m mo, r⟩) hM
  rw [hl] at hT
  rw [detV_dt r hM hl, detV_dt r hT (trL_len ..), ← dt_tr (mtx ⟨mkD p m mo, r⟩ L)]
  exact dt_congr fun i j hi hj => mtx_tr (F := ⟨mkD p m mo, r⟩) hi (by omega)
theorem detV_sw (r : Fd (mkD p m mo)) {n : Nat} {L : List (List Int)} (hM : Mat (mkD p m mo) n L) (hl : L.length = n) (h2 : 2 ≤ n) : detV p m mo n (swL L 0 1) = (mkD p m mo).neg (detV p m mo n L) := by
  refine toK_inj (F := ⟨mkD p m mo, r⟩) (detV_R r n _) (r.toOk.negR _) ?_
  have hS := hM.sw (i := 0) (k := 1) (by omega) (by omega)
  rw [toK_neg, detV_dt r hM hl, detV_dt r hS (by rw [swL_len, hl])]
  have h1 := (RE.refl (n := n) (mtx ⟨mkD p m mo, r⟩ L)).swap (i := 0) (j := 1) (by omega) (by omega) (by omega)
  have h3 := h1.cng (B' := mtx ⟨mkD p m mo, r⟩ (swL L 0 1)) fun i hi j => by
    show swapR (mtx ⟨mkD p m mo, r⟩ L) 0 1 i j = toK _ (((swL L 0 1).getD i []).getD j 0)
    rw [swL_get (by omega) (by omega)]
    unfold swapR
    by_cases e0 : i = 0
    · subst e0; rw [if_pos rfl, if_neg (by omega), if_pos rfl]; rfl
    · rw [if_neg e0]
      by_cases e1 : i = 1
      · subst e1; rw [if_pos rfl, if_pos rfl]; rfl
      · rw [if_neg e1, if_neg e1, if_neg e0]; rfl
  have := h3.dt
  rw [this, neg_mul, one_mul]
end
section
variable {p m : Int} {mo : List Int} {mv : AV}
theorem det_ok (hmv : IL mv mo) (hml : mo.length < 4611686018427387904) (hf : FieldP p m mo) {L : List (List Int)} {n : Nat} {v : AV} (hv : ML v L) (hM : Mat (mkD p m mo) n L) (h1 : L.length = n) (h2 : n ≤ 256) :
    Pure prog n_matrix_Det [.agg [I p, I m, mv], .agg [I n, v]] (.tup [I (detV p m mo n L), I 0]) := by
  have := s_Det (p := p) (m := m) hmv hml (c := n) hv (mat_sm h2 (by omega) hM)
  have hE : detE p m mo n L = 0 := by
    unfold detE
    rw [if_neg (by simpa using openE_mat hf h2 (by omega) hM), if_neg (by omega)]
  unfold detR at this
  rwa [if_pos hE] at this
end
end Go.AM.Ytmihmgnjnedfcab
end

section
/- Codes of the program, as the conversion gives them. -/
set_option maxRecDepth 100000
namespace Go.AM.Ytmihmgnjnedfcab
open Go Go.AM
-- law09_MatrixDet
abbrev c_law09_MatrixDet_17 : SC := .ret
abbrev c_law09_MatrixDet_16 : SC := .seq (.reg [o 169 (.mv (.t 8)), o 170 (.bin .eql (.t 169) (ki 0)), o 171 (.mv (.t 170)), og 171 true 0 172 (.mv (.t 16)), og 171 true 0 173 (.ld (.t 3) 3 true), og 171 true 0 174 (.mv (.t 7)), og 171 true 0 175 (.call (.f n_ref04_Neg) [.t 173, .t 174]), og 171 true 0 176 (.bin .eql (.t 172) (.t 175)), o 177 (.pick (.t 171) (.t 176) (kb false)), o 6 (.mv (.t 177))]) c_law09_MatrixDet_17
abbrev c_law09_MatrixDet_15 : SC := .fz [15] (.seq (.reg [o 161 (.ld (.t 3) 3 true), o 162 (.fadr (.t 4) 0), o 163 (.ld (.t 162) 1 false), o 164 (.mv (.t 15)), o 165 (.build [I 0, .nils] [(0, (1, .t 163)), (1, (1, .t 164))]), o 166 (.call (.f n_matrix_Det) [.t 161, .t 165]), o 160 (.mv (.t 166)), o 167 (.ext (.t 160) 0), o 168 (.ext (.t 160) 1), o 16 (.mv (.t 167)), o 8 (.mv (.t 168))]) c_law09_MatrixDet_16)
abbrev c_law09_MatrixDet_14 : SC := .seq (.reg [o 150 (.mv (.t 15)), o 151 (.mv (.t 15)), o 152 (.mv (.t 15)), o 153 (.iadr (.t 152) (ki 1) 1), o 155 (.mv (.t 15)), o 156 (.iadr (.t 155) (ki 0) 1), o 154 (.ld (.t 153) 1 false), o 157 (.ld (.t 156) 1 false), o 158 (.iadr (.t 150) (ki 0) 1), os (.st (.t 158) (.t 154) 1), o 159 (.iadr (.t 151) (ki 1) 1), os (.st (.t 159) (.t 157) 1)]) c_law09_MatrixDet_15
abbrev c_law09_MatrixDet_13 : SC := .seq (.reg [o 147 (.fadr (.t 4) 1), o 148 (.ld (.t 147) 1 false), o 149 (.call (.f n_ref09_Copy) [.t 148]), o 15 (.mv (.t 149))]) c_law09_MatrixDet_14
abbrev c_law09_MatrixDet_12 : SC := .seq (.seq (.reg [o 143 (.fadr (.t 4) 1), o 144 (.ld (.t 143) 1 false), o 145 (.len (.t 144)), o 146 (.bin .lss (.t 145) (ki 2))]) (.cond (.t 146) (.seq (.reg [o 6 (.mv (kb true))]) .ret) .skip)) c_law09_MatrixDet_13
abbrev c_law09_MatrixDet_11 : SC := .seq (.seq (.reg [o 112 (.mv (.t 8)), o 113 (.bin .neq (.t 112) (ki 0)), o 114 (.mv (.t 113)), og 114 false 0 115 (.mv (.t 10)), og 114 false 0 116 (.bin .neq (.t 115) (ki 0)), o 117 (.pick (.t 114) (kb true) (.t 116)), o 118 (.mv (.t 117)), og 118 false 0 119 (.ld (.t 3) 3 true), og 118 false 0 120 (.mv (.t 7)), og 118 false 0 121 (.call (.f n_ref04_Is) [.t 119, .t 120]), og 118 false 0 122 (.not (.t 121)), o 123 (.pick (.t 118) (kb true) (.t 122)), o 124 (.mv (.t 123)), og 124 false 0 125 (.ld (.t 3) 3 true), og 124 false 0 126 (.mv (.t 9)), og 124 false 0 127 (.call (.f n_ref04_Is) [.t 125, .t 126]), og 124 false 0 128 (.not (.t 127)), o 129 (.pick (.t 124) (kb true) (.t 128)), o 130 (.mv (.t 129)), og 130 false 0 131 (.mv (.t 13)), og 130 false 0 132 (.ld (.t 3) 3 true), og 130 false 0 133 (.mv (.t 7)), og 130 false 0 134 (.mv (.t 9)), og 130 false 0 135 (.call (.f n_ref04_Mul) [.t 132, .t 133, .t 134]), og 130 false 0 136 (.bin .neq (.t 131) (.t 135)), o 137 (.pick (.t 130) (kb true) (.t 136)), o 138 (.mv (.t 137)), og 138 false 0 139 (.mv (.t 14)), og 138 false 0 140 (.mv (.t 7)), og 138 false 0 141 (.bin .neq (.t 139) (.t 140)), o 142 (.pick (.t 138) (kb true) (.t 141))]) (.cond (.t 142) (.seq (.reg [o 6 (.mv (kb false))]) .ret) .skip)) c_law09_MatrixDet_12
abbrev c_law09_MatrixDet_10 : SC := .seq (.reg [o 107 (.ld (.t 3) 3 true), o 108 (.ld (.t 12) 2 true), o 109 (.call (.f n_matrix_Det) [.t 107, .t 108]), o 106 (.mv (.t 109)), o 110 (.ext (.t 106) 0), o 111 (.ext (.t 106) 1), o 14 (.mv (.t 110)), o 10 (.mv (.t 111))]) c_law09_MatrixDet_11
abbrev c_law09_MatrixDet_9 : SC := .seq (.reg [o 101 (.ld (.t 3) 3 true), o 102 (.ld (.t 11) 2 true), o 103 (.call (.f n_matrix_Det) [.t 101, .t 102]), o 100 (.mv (.t 103)), o 104 (.ext (.t 100) 0), o 105 (.ext (.t 100) 1), o 13 (.mv (.t 104)), o 8 (.mv (.t 105))]) c_law09_MatrixDet_10
abbrev c_law09_MatrixDet_8 : SC := .seq (.seq (.reg [o 94 (.mv (.t 8)), o 95 (.bin .neq (.t 94) (ki 0)), o 96 (.mv (.t 95)), og 96 false 0 97 (.mv (.t 10)), og 96 false 0 98 (.bin .neq (.t 97) (ki 0)), o 99 (.pick (.t 96) (kb true) (.t 98))]) (.cond (.t 99) (.seq (.reg [o 6 (.mv (kb false))]) .ret) .skip)) c_law09_MatrixDet_9
abbrev c_law09_MatrixDet_7 : SC := .seq (.reg [o 89 (.ld (.t 3) 3 true), o 90 (.ld (.t 4) 2 true), o 91 (.call (.f n_matrix_Transpose) [.t 89, .t 90]), o 88 (.mv (.t 91)), o 92 (.ext (.t 88) 0), o 93 (.ext (.t 88) 1), o 12 (.new [I 0, .nils]), os (.st (.t 12) (.t 92) 2), o 10 (.mv (.t 93))]) c_law09_MatrixDet_8
abbrev c_law09_MatrixDet_6 : SC := .seq (.reg [o 82 (.ld (.t 3) 3 true), o 83 (.ld (.t 4) 2 true), o 84 (.ld (.t 5) 2 true), o 85 (.call (.f n_matrix_Mul) [.t 82, .t 83, .t 84]), o 81 (.mv (.t 85)), o 86 (.ext (.t 81) 0), o 87 (.ext (.t 81) 1), o 11 (.new [I 0, .nils]), os (.st (.t 11) (.t 86) 2), o 8 (.mv (.t 87))]) c_law09_MatrixDet_7
abbrev c_law09_MatrixDet_5 : SC := .seq (.seq (.reg [o 75 (.mv (.t 8)), o 76 (.bin .neq (.t 75) (ki 0)), o 77 (.mv (.t 76)), og 77 false 0 78 (.mv (.t 10)), og 77 false 0 79 (.bin .neq (.t 78) (ki 0)), o 80 (.pick (.t 77) (kb true) (.t 79))]) (.cond (.t 80) (.seq (.reg [o 6 (.mv (kb false))]) .ret) .skip)) c_law09_MatrixDet_6
abbrev c_law09_MatrixDet_4 : SC := .seq (.reg [o 70 (.ld (.t 3) 3 true), o 71 (.ld (.t 5) 2 true), o 72 (.call (.f n_matrix_Det) [.t 70, .t 71]), o 69 (.mv (.t 72)), o 73 (.ext (.t 69) 0), o 74 (.ext (.t 69) 1), o 9 (.mv (.t 73)), o 10 (.mv (.t 74))]) c_law09_MatrixDet_5
abbrev c_law09_MatrixDet_3 : SC := .seq (.reg [o 64 (.ld (.t 3) 3 true), o 65 (.ld (.t 4) 2 true), o 66 (.call (.f n_matrix_Det) [.t 64, .t 65]), o 63 (.mv (.t 66)), o 67 (.ext (.t 63) 0), o 68 (.ext (.t 63) 1), o 7 (.mv (.t 67)), o 8 (.mv (.t 68))]) c_law09_MatrixDet_4
abbrev c_law09_MatrixDet_2 : SC := .seq (.seq (.reg [o 30 (.ld (.t 3) 3 true), o 31 (.ld (.t 4) 2 true), o 32 (.call (.f n_ref09_Check) [.t 30, .t 31]), o 33 (.bin .neq (.t 32) (ki 0)), o 34 (.mv (.t 33)), og 34 false 0 35 (.ld (.t 3) 3 true), og 34 false 0 36 (.ld (.t 5) 2 true), og 34 false 0 37 (.call (.f n_ref09_Check) [.t 35, .t 36]), og 34 false 0 38 (.bin .neq (.t 37) (ki 0)), o 39 (.pick (.t 34) (kb true) (.t 38)), o 40 (.mv (.t 39)), og 40 false 0 41 (.fadr (.t 4) 1), og 40 false 0 42 (.ld (.t 41) 1 false), og 40 false 0 43 (.len (.t 42)), og 40 false 0 44 (.fadr (.t 4) 0), og 40 false 0 45 (.ld (.t 44) 1 false), og 40 false 0 46 (.bin .neq (.t 43) (.t 45)), o 47 (.pick (.t 40) (kb true) (.t 46)), o 48 (.mv (.t 47)), og 48 false 0 49 (.fadr (.t 5) 1), og 48 false 0 50 (.ld (.t 49) 1 false), og 48 false 0 51 (.len (.t 50)), og 48 false 0 52 (.fadr (.t 5) 0), og 48 false 0 53 (.ld (.t 52) 1 false), og 48 false 0 54 (.bin .neq (.t 51) (.t 53)), o 55 (.pick (.t 48) (kb true) (.t 54)), o 56 (.mv (.t 55)), og 56 false 0 57 (.fadr (.t 4) 0), og 56 false 0 58 (.ld (.t 57) 1 false), og 56 false 0 59 (.fadr (.t 5) 0), og 56 false 0 60 (.ld (.t 59) 1 false), og 56 false 0 61 (.bin .neq (.t 58) (.t 60)), o 62 (.pick (.t 56) (kb true) (.t 61))]) (.cond (.t 62) (.seq (.reg [o 6 (.mv (kb true))]) .ret) .skip)) c_law09_MatrixDet_3
abbrev c_law09_MatrixDet_1 : SC := .seq (.seq (.reg [o 17 (.call (.f n_law09_awake) []), o 18 (.not (.t 17)), o 19 (.mv (.t 18)), og 19 false 0 20 (.ld (.t 4) 2 true), og 19 false 0 21 (.call (.f n_ref09_Few) [.t 20, ki 150]), og 19 false 0 22 (.not (.t 21)), o 23 (.pick (.t 19) (kb true) (.t 22)), o 24 (.mv (.t 23)), og 24 false 0 25 (.ld (.t 5) 2 true), og 24 false 0 26 (.call (.f n_ref09_Few) [.t 25, ki 150]), og 24 false 0 27 (.not (.t 26)), o 28 (.pick (.t 24) (kb true) (.t 27))]) (.cond (.t 28) (.seq (.reg [o 29 (.call (.f n_law09_awake) []), o 6 (.mv (.t 29))]) .ret) .skip)) c_law09_MatrixDet_2
abbrev c_law09_MatrixDet_0 : SC := .seq (.reg [o 3 (.box (.t 0)), o 4 (.box (.t 1)), o 5 (.box (.t 2)), o 6 (.mv (kb false))]) c_law09_MatrixDet_1
theorem cf_law09_MatrixDet : cfun Go.Proofs.Try.prog md n_law09_MatrixDet = some ⟨3, 178, c_law09_MatrixDet_0.erase, [.t 6]⟩ := by kernel_rfl
end Go.AM.Ytmihmgnjnedfcab
end

section
/- The law MatrixDet. -/
set_option maxRecDepth 100000
set_option linter.unusedSimpArgs false
set_option linter.unusedVariables false
namespace Go.AM.Ytmihmgnjnedfcab
open Go Go.AM
attribute [local simp ↓] awp_seq awp_reg awp_skip awp_cond' awp_block awp_exit awp_ret awp_fz thenW_normal thenW_exit thenW_ret inBlk_normal inBlk_exit inBlk_ret aops_cons' contA_ap aops_nil e_mv e_guard' e_pick' e_ld' e_app e_cpy e_st' e_call callW_f updO_some updO_none e_bin' e_isnil' e_fadr' e_iadr' e_iarr' e_len' e_build' e_mkf' e_nc' e_not' e_neg' e_cvt' e_slc' e_fld' e_ext' e_min' e_eqs' e_new e_box e_mkl e_mks
attribute [local simp] upd_apply ev_t ev_k ev_f binA_add binA_sub binA_mul binA_quo binA_rem binA_eql binA_neq binA_lss binA_leq binA_gtr binA_geq det mem frame0 keeps_nil iadrA_sl fadrA_ref fadrA_fp ldv_agg ldv_one cells_base hset_same hset_hset lenA_fs lenA_sl lenA_nils zeros_ints ints_length one_base one_nilp one_nils one_ref one_sl one_fp one_fs one_fn gl_one resA resOf bound natOf afill splice AV.cells cells_agg bindR_some condR_true condR_false guardR_tup guardR_true guardR_true' guardR_false guardR_false' allocW_some pickA_true pickA_false
open Go.FM

set_option maxHeartbeats 4000000 in
theorem s_MatrixDet {p m : Int} {mv va vb : AV} {mo : List Int} (hmv : IL mv mo) (hml : mo.length < 4611686018427387904) {ca cb : Int} {Am Bm : List (List Int)} (hA : ML va Am) (hAs : MSm Am) (hB : ML vb Bm) (hBs : MSm Bm) :
    Pure prog n_law09_MatrixDet [.agg [I p, I m, mv], .agg [I ca, va], .agg [I cb, vb]] (B true) := by
  refine pure_of cf_law09_MatrixDet rfl fun h => ?_
  have hone := hmv.one
  have hone2 := hA.one
  have hone3 := hB.one
  unfold c_law09_MatrixDet_0 c_law09_MatrixDet_1
  generalize hC : c_law09_MatrixDet_2 = C2
  simp [hone, hone2, hone3]
  intro b3 hb3 b4 hb4 b5 hb5
  obtain ⟨g3, g4, g5, hk⟩ := four_boxes (zs := [I cb, vb]) hb3 hb4 hb5
  generalize hset (hset (hset h b3 [I p, I m, mv]) b4 [I ca, va]) b5 [I cb, vb] = H0 at *
  obtain ⟨_, _, _, l3⟩ := ld3_at g3
  have l4 := lq_both g4
  have l5 := lq_both g5
  refine s_awake.call ?_
  simp [l4]
  refine (s_Few hA hAs.1 (n := 150) (by omega)).call ?_
  by_cases hf : fewB ca Am 150 = true
  case neg =>
    have : fewB ca Am 150 = false := by simpa using hf
    rw [this]
    simp
    refine s_awake.call ?_
    simp
    exact ⟨_, hk.sub, .id _, rfl⟩
  rw [hf]
  simp [l5]
  refine (s_Few hB hBs.1 (n := 150) (by omega)).call ?_
  by_cases hf2 : fewB cb Bm 150 = true
  case neg =>
    have : fewB cb Bm 150 = false := by simpa using hf2
    rw [this]
    simp
    refine s_awake.call ?_
    simp
    exact ⟨_, hk.sub, .id _, rfl⟩
  rw [hf2]
  simp
  refine awp_gen [3, 4, 5] fun fr0 hsl => ?_
  have p3 := hsl 3 (by simp)
  have p4 := hsl 4 (by simp)
  have p5 := hsl 5 (by simp)
  simp at p3 p4 p5
  clear hsl
  have e1 := s_ref09Check (p := p) (m := m) hmv hml (c := ca) hA hAs
  have e2 := s_ref09Check (p := p) (m := m) hmv hml (c := cb) hB hBs
  have l40 := lq_fst g4
  have l41 := lq_snd g4
  have l50 := lq_fst g5
  have l51 := lq_snd g5
  subst hC
  unfold c_law09_MatrixDet_2
  generalize hC : c_law09_MatrixDet_3 = C3
  simp [p3, p4, l3, l4]
  refine e1.call ?_
  by_cases h1 : openE p m mo [(ca, Am)] = 0
  case neg =>
    generalize openE p m mo [(ca, Am)] = e at *
    simp [h1]
    exact ⟨_, hk.sub, .id _, rfl⟩
  rw [h1]
  simp [p3, p5, l3, l5]
  refine e2.call ?_
  by_cases h2 : openE p m mo [(cb, Bm)] = 0
  case neg =>
    generalize openE p m mo [(cb, Bm)] = e at *
    simp [h2]
    exact ⟨_, hk.sub, .id _, rfl⟩
  rw [h2]
  obtain ⟨hfp, n, rfl, hn, hAl, hAM⟩ := openE_one h1
  obtain ⟨_, nb, rfl, hnb, hBl, hBM⟩ := openE_one h2
  by_cases h3 : Am.length = n
  case neg =>
    have h3' : ¬ (Am.length : Int) = n := by omega
    simp [p4, p5, l40, l41, hA.len, h3, h3']
    exact ⟨_, hk.sub, .id _, rfl⟩
  by_cases h4 : Bm.length = nb
  case neg =>
    have h4' : ¬ (Bm.length : Int) = nb := by omega
    simp [p4, p5, l40, l41, l50, l51, hA.len, hB.len, h3, h4, h4']
    exact ⟨_, hk.sub, .id _, rfl⟩
  by_cases h5 : n = nb
  case neg =>
    have h5' : ¬ (n : Int) = nb := by omega
    simp [p4, p5, l40, l41, l50, l51, hA.len, hB.len, h3, h4, h5, h5']
    exact ⟨_, hk.sub, .id _, rfl⟩
  subst h5
  simp [p4, p5, l40, l41, l50, l51, hA.len, hB.len, h3, h4]
  have r := hfp.fd
  have hPM := mulL_mat (F := ⟨mkD p m mo, r⟩) Am Bm n
  have hTM := trL_mat (F := ⟨mkD p m mo, r⟩) hAM
  rw [h3] at hTM
  simp only at hPM hTM
  have hPl := mulL_len (mkD p m mo) Am Bm n
  have hTl := trL_len Am n
  have c1 := det_ok hmv hml hfp hA hAM h3 hn
  have c2 := det_ok hmv hml hfp hB hBM h4 hn
  have c3 := mul_ok hmv hml hfp hA hB (by rw [h4]; exact hAM) hBM hAl hBl hn
  rw [h4] at c3
  have vP := MVr.gml (mat_sm hn (by omega) hPM)
  have c4 := trn_ok hmv hml hfp hA hAM hAl hn
  rw [h3] at c4
  have vT := MVr.fs (mat_sm hn (by omega) hTM)
  rw [hTl] at vT
  have c5 := det_ok hmv hml hfp vP.ml hPM (by omega) hn
  have c6 := det_ok hmv hml hfp vT.ml hTM hTl hn
  rw [detV_mul r hAM hBM h3 h4] at c5
  rw [detV_tr r hAM h3] at c6
  have hxR := detV_R r n Am
  have hyR := detV_R r n Bm
  have hmv2 : IL mv (mkD p m mo).mo := hmv
  have i1 := s_refIs r.toRg hone (detV p m mo n Am)
  have i2 := s_refIs r.toRg hone (detV p m mo n Bm)
  rw [decide_eq_true (show 0 ≤ detV p m mo n Am ∧ detV p m mo n Am < (mkD p m mo).q from hxR), hfp.1.dp, hfp.1.dm] at i1
  rw [decide_eq_true (show 0 ≤ detV p m mo n Bm ∧ detV p m mo n Bm < (mkD p m mo).q from hyR), hfp.1.dp, hfp.1.dm] at i2
  have i3 := s_refMul r.toRg hmv2 (detV p m mo n Am) (detV p m mo n Bm)
  have i4 := s_refNeg r.toRg hmv2 (detV p m mo n Am)
  rw [hfp.1.dp, hfp.1.dm] at i3 i4
  have c7 : 2 ≤ n → Pure prog n_matrix_Det [.agg [I p, I m, mv], .agg [I n, .fs n (fL (swL Am 0 1))]] (.tup [I ((mkD p m mo).neg (detV p m mo n Am)), I 0]) := fun h0 => by
    have hS := hAM.sw (i := 0) (k := 1) (by omega) (by omega)
    have hSl : (swL Am 0 1).length = n := by rw [swL_len, h3]
    have ml : ML (.fs n (fL (swL Am 0 1))) (swL Am 0 1) := by rw [← hSl]; exact ML_fs _
    have := det_ok hmv hml hfp ml hS hSl hn
    rwa [detV_sw r hAM h3 h0] at this
  clear hPM hTM hPl hTl e1 e2 hxR hyR l40 l41 l50 l51
  generalize gml (mulL (mkD p m mo) Am Bm n) = P at *
  generalize AV.fs n ((trL Am n).map frow) = T at *
  generalize (mkD p m mo).mul (detV p m mo n Am) (detV p m mo n Bm) = xy at *
  generalize (mkD p m mo).neg (detV p m mo n Am) = nx at *
  generalize detV p m mo n Am = x at *
  generalize detV p m mo n Bm = y at *
  subst hC
  unfold c_law09_MatrixDet_3
  generalize hC : c_law09_MatrixDet_4 = C4
  simp [p3, p4, l3, l4]
  refine c1.call ?_
  simp
  refine awp_gen [3, 4, 5, 7, 8] fun fr1 hsl => ?_
  have n3 := hsl 3 (by simp)
  have n4 := hsl 4 (by simp)
  have n5 := hsl 5 (by simp)
  have n7 := hsl 7 (by simp)
  have n8 := hsl 8 (by simp)
  simp [p3, p4, p5] at n3 n4 n5 n7 n8
  clear hsl p3 p4 p5
  have p3 := n3
  have p4 := n4
  have p5 := n5
  have p7 := n7
  have p8 := n8
  clear n3 n4 n5 n7 n8
  subst hC
  unfold c_law09_MatrixDet_4
  generalize hC : c_law09_MatrixDet_5 = C5
  simp [p3, p5, l3, l5]
  refine c2.call ?_
  simp
  refine awp_gen [3, 4, 5, 7, 8, 9, 10] fun fr2 hsl => ?_
  have n3 := hsl 3 (by simp)
  have n4 := hsl 4 (by simp)
  have n5 := hsl 5 (by simp)
  have n7 := hsl 7 (by simp)
  have n8 := hsl 8 (by simp)
  have n9 := hsl 9 (by simp)
  have n10 := hsl 10 (by simp)
  simp [p3, p4, p5, p7, p8] at n3 n4 n5 n7 n8 n9 n10
  clear hsl p3 p4 p5 p7 p8
  have p3 := n3
  have p4 := n4
  have p5 := n5
  have p7 := n7
  have p8 := n8
  have p9 := n9
  have p10 := n10
  clear n3 n4 n5 n7 n8 n9 n10
  subst hC
  unfold c_law09_MatrixDet_5
  generalize hC : c_law09_MatrixDet_6 = C6
  simp [p8, p10]
  subst hC
  unfold c_law09_MatrixDet_6
  generalize hC : c_law09_MatrixDet_7 = C7
  simp [p3, p4, p5, l3, l4, l5]
  refine c3.call ?_
  simp [vP.st]
  intro b11 hb11
  have kk := (Kp.refl H0).new hb11 [I n, P]
  have g11 := hset_same H0 b11 [I n, P]
  have g3 := kk _ _ g3
  have g4 := kk _ _ g4
  have g5 := kk _ _ g5
  have hk := hk.trans kk
  clear kk hb11 l3 l4 l5
  generalize hset H0 b11 [I n, P] = H11 at *
  obtain ⟨_, _, _, l3⟩ := ld3_at g3
  have l4 := lq_both g4
  have l5 := lq_both g5
  have l11 := lq_both g11
  refine awp_gen [3, 4, 5, 11, 7, 8, 9, 10] fun fr3 hsl => ?_
  have n3 := hsl 3 (by simp)
  have n4 := hsl 4 (by simp)
  have n5 := hsl 5 (by simp)
  have n11 := hsl 11 (by simp)
  have n7 := hsl 7 (by simp)
  have n8 := hsl 8 (by simp)
  have n9 := hsl 9 (by simp)
  have n10 := hsl 10 (by simp)
  simp [p3, p4, p5, p7, p8, p9, p10] at n3 n4 n5 n11 n7 n8 n9 n10
  clear hsl p3 p4 p5 p7 p8 p9 p10
  have p3 := n3
  have p4 := n4
  have p5 := n5
  have p11 := n11
  have p7 := n7
  have p8 := n8
  have p9 := n9
  have p10 := n10
  clear n3 n4 n5 n11 n7 n8 n9 n10
  subst hC
  unfold c_law09_MatrixDet_7
  generalize hC : c_law09_MatrixDet_8 = C8
  simp [p3, p4, l3, l4]
  refine c4.call ?_
  simp [vT.st]
  intro b12 hb12
  have kk := (Kp.refl H11).new hb12 [I n, T]
  have g12 := hset_same H11 b12 [I n, T]
  have g3 := kk _ _ g3
  have g4 := kk _ _ g4
  have g5 := kk _ _ g5
  have g11 := kk _ _ g11
  have hk := hk.trans kk
  clear kk hb12 l3 l4 l5 l11
  generalize hset H11 b12 [I n, T] = H12 at *
  obtain ⟨_, _, _, l3⟩ := ld3_at g3
  have l4 := lq_both g4
  have l5 := lq_both g5
  have l11 := lq_both g11
  have l12 := lq_both g12
  refine awp_gen [3, 4, 5, 11, 12, 7, 8, 9, 10] fun fr4 hsl => ?_
  have n3 := hsl 3 (by simp)
  have n4 := hsl 4 (by simp)
  have n5 := hsl 5 (by simp)
  have n11 := hsl 11 (by simp)
  have n12 := hsl 12 (by simp)
  have n7 := hsl 7 (by simp)
  have n8 := hsl 8 (by simp)
  have n9 := hsl 9 (by simp)
  have n10 := hsl 10 (by simp)
  simp [p3, p4, p5, p11, p7, p8, p9, p10] at n3 n4 n5 n11 n12 n7 n8 n9 n10
  clear hsl p3 p4 p5 p7 p8 p9 p10 p11
  have p3 := n3
  have p4 := n4
  have p5 := n5
  have p11 := n11
  have p12 := n12
  have p7 := n7
  have p8 := n8
  have p9 := n9
  have p10 := n10
  clear n3 n4 n5 n11 n12 n7 n8 n9 n10
  subst hC
  unfold c_law09_MatrixDet_8
  generalize hC : c_law09_MatrixDet_9 = C9
  simp [p8, p10]
  subst hC
  unfold c_law09_MatrixDet_9
  generalize hC : c_law09_MatrixDet_10 = C10
  simp [p3, p11, l3, l11]
  refine c5.call ?_
  simp
  refine awp_gen [3, 4, 5, 11, 12, 7, 8, 9, 10, 13] fun fr5 hsl => ?_
  have n3 := hsl 3 (by simp)
  have n4 := hsl 4 (by simp)
  have n5 := hsl 5 (by simp)
  have n11 := hsl 11 (by simp)
  have n12 := hsl 12 (by simp)
  have n7 := hsl 7 (by simp)
  have n8 := hsl 8 (by simp)
  have n9 := hsl 9 (by simp)
  have n10 := hsl 10 (by simp)
  have n13 := hsl 13 (by simp)
  simp [p3, p4, p5, p11, p12, p7, p8, p9, p10] at n3 n4 n5 n11 n12 n7 n8 n9 n10 n13
  clear hsl p3 p4 p5 p7 p8 p9 p10 p11 p12
  have p3 := n3
  have p4 := n4
  have p5 := n5
  have p11 := n11
  have p12 := n12
  have p7 := n7
  have p8 := n8
  have p9 := n9
  have p10 := n10
  have p13 := n13
  clear n3 n4 n5 n11 n12 n7 n8 n9 n10 n13
  subst hC
  unfold c_law09_MatrixDet_10
  generalize hC : c_law09_MatrixDet_11 = C11
  simp [p3, p12, l3, l12]
  refine c6.call ?_
  simp
  refine awp_gen [3, 4, 5, 11, 12, 7, 8, 9, 10, 13, 14] fun fr6 hsl => ?_
  have n3 := hsl 3 (by simp)
  have n4 := hsl 4 (by simp)
  have n5 := hsl 5 (by simp)
  have n11 := hsl 11 (by simp)
  have n12 := hsl 12 (by simp)
  have n7 := hsl 7 (by simp)
  have n8 := hsl 8 (by simp)
  have n9 := hsl 9 (by simp)
  have n10 := hsl 10 (by simp)
  have n13 := hsl 13 (by simp)
  have n14 := hsl 14 (by simp)
  simp [p3, p4, p5, p11, p12, p7, p8, p9, p10, p13] at n3 n4 n5 n11 n12 n7 n8 n9 n10 n13 n14
  clear hsl p3 p4 p5 p7 p8 p9 p10 p11 p12 p13
  have p3 := n3
  have p4 := n4
  have p5 := n5
  have p11 := n11
  have p12 := n12
  have p7 := n7
  have p8 := n8
  have p9 := n9
  have p10 := n10
  have p13 := n13
  have p14 := n14
  clear n3 n4 n5 n11 n12 n7 n8 n9 n10 n13 n14
  subst hC
  unfold c_law09_MatrixDet_11
  generalize hC : c_law09_MatrixDet_12 = C12
  simp [p7, p8, p10, p3, l3]
  refine i1.call ?_
  simp [p9, p3, l3]
  refine i2.call ?_
  simp [p7, p9, p13, p3, l3]
  refine i3.call ?_
  simp [p14, p7]
  have l40 := lq_fst g4
  have l41 := lq_snd g4
  subst hC
  unfold c_law09_MatrixDet_12
  generalize hC : c_law09_MatrixDet_13 = C13
  by_cases h0 : n < 2
  · have h0' : (n : Int) < 2 := by omega
    simp [p4, l41, hA.len, h3, h0, h0']
    exact ⟨_, hk.sub, .id _, rfl⟩
  have h0' : ¬ (n : Int) < 2 := by omega
  simp [p4, l41, hA.len, h3, h0, h0']
  have c7 := c7 (by omega)
  subst hC
  unfold c_law09_MatrixDet_13
  generalize hC : c_law09_MatrixDet_14 = C14
  simp [p4, l41]
  refine call0 (w_Copy hA (by omega) (by omega) (fun row hr => by rw [(hAM row hr).1]; omega) H12) fun v1 h1 ⟨o, hv1, ho, hh⟩ => ?_
  subst hv1 hh
  have kk := (Kp.refl H12).new ho (fL Am)
  have hfl : hset H12 o (Am.map frow) = hset H12 o (fL Am) := rfl
  rw [hfl, h3]
  subst hC
  unfold c_law09_MatrixDet_14
  generalize hC : c_law09_MatrixDet_15 = C15
  have hl := fL_len Am
  have r0 := ld_one_at (hset_same H12 o (fL Am)) (k := 0) (by omega)
  have r1 := ld_one_at (hset_same H12 o (fL Am)) (k := 1) (by omega)
  rw [frow_getD (by omega)] at r0 r1
  have s0 := fun R => sr_one (R := R) (v := frow (Am.getD 1 [])) (k := 0) (hset_same H12 o (fL Am)) (frow_cell _).1 (frow_cell _).2 (by omega)
  rw [hset_hset, frow_set] at s0
  have s1 := fun R => sr_one (R := R) (v := frow (Am.getD 0 [])) (k := 1) (hset_same H12 o (fL (Am.set 0 (Am.getD 1 [])))) (frow_cell _).1 (frow_cell _).2 (by rw [fL_len, List.length_set]; omega)
  rw [hset_hset, frow_set] at s1
  have hsw : (Am.set 0 (Am.getD 1 [])).set 1 (Am.getD 0 []) = swL Am 0 1 := rfl
  rw [hsw] at s1
  have n0 : 0 < n := by omega
  have n1 : 1 < n := by omega
  have n1' : (1 : Int) < n := by omega
  unfold frow at r0 r1 s0 s1
  generalize Am.getD 0 [] = row0 at *
  generalize Am.getD 1 [] = row1 at *
  simp [n0, n1, n1', r0, r1, s0, s1]
  subst hC
  unfold c_law09_MatrixDet_15
  generalize hC : c_law09_MatrixDet_16 = C16
  simp
  refine Fz_one (g := H12) (b := o) (n := n) (sz := 1) (cs := fL (swL Am 0 1)) (by simp) (hset_same ..) ho ((Kp.refl _).new ho _) (by rw [fL_len, swL_len, h3]; omega) ?_
  simp [p3, p4, l3, l40]
  refine c7.call ?_
  simp
  subst hC
  simp [p3, p7, l3]
  refine i4.call ?_
  simp
  exact ⟨_, hk.sub, .id _, rfl⟩
end Go.AM.Ytmihmgnjnedfcab
end

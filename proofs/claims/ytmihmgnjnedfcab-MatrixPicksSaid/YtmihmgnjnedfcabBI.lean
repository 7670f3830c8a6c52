import Derived.Test.YtmihmgnjnedfcabBH
import Derived.Test.YtmihmgnjnedfcabBB

section
/- Parts that the laws of chapter 9 share. -/
set_option maxRecDepth 100000
set_option linter.unusedSimpArgs false
set_option linter.unusedVariables false
namespace Go.AM.Ytmihmgnjnedfcab
open Go Go.AM
attribute [local simp ↓] awp_seq awp_reg awp_skip awp_cond' awp_block awp_exit awp_ret awp_fz thenW_normal thenW_exit thenW_ret inBlk_normal inBlk_exit inBlk_ret aops_cons' contA_ap aops_nil e_mv e_guard' e_pick' e_ld' e_app e_cpy e_st' e_call callW_f updO_some updO_none e_bin' e_isnil' e_fadr' e_iadr' e_iarr' e_len' e_build' e_mkf' e_nc' e_not' e_neg' e_cvt' e_slc' e_fld' e_ext' e_min' e_eqs' e_new e_box e_mkl e_mks
attribute [local simp] upd_apply ev_t ev_k ev_f binA_add binA_sub binA_mul binA_quo binA_rem binA_eql binA_neq binA_lss binA_leq binA_gtr binA_geq det mem frame0 keeps_nil iadrA_sl fadrA_ref fadrA_fp ldv_agg ldv_one cells_base hset_same hset_hset lenA_fs lenA_sl lenA_nils zeros_ints ints_length one_base one_nilp one_nils one_ref one_sl one_fp one_fs one_fn gl_one resA resOf bound natOf afill splice AV.cells cells_agg bindR_some condR_true condR_false guardR_tup guardR_true guardR_true' guardR_false guardR_false' allocW_some pickA_true pickA_false
open Go.FM

theorem canR_ok {p m : Int} {mo : List Int} {n : Nat} {L : List (List Int)} (he : openE p m mo [((n : Int), L)] = 0) (hM : Mat (mkD p m mo) n L) (r : Fd (mkD p m mo)) : ∃ CV PV, canR p m mo n L = .tup [.agg [I n, CV], PV, I 0] ∧ ML CV (canL (mkD p m mo) L n) ∧ IL PV (pivL (mkD p m mo) L n) ∧ CV.cells = [CV] ∧ one CV = true ∧ one PV = true := by
  have hcl := canL_len0 r hM n
  refine ⟨_, _, by unfold canR; rw [if_pos he, Int.toNat_natCast], ?_, gil_IL _, rfl, rfl, (gil_IL _).one⟩
  rw [← hcl]; exact ML_fs _
theorem canR_bad {p m : Int} {mo : List Int} {c : Int} {L : List (List Int)} (he : openE p m mo [(c, L)] ≠ 0) : canR p m mo c L = .tup [.agg [I 0, .nils], .nils, I (openE p m mo [(c, L)])] := by
  unfold canR; rw [if_neg he]
theorem st_box2 {h : Hp} {b : Nat} {n : Int} {cv : AV} {R : AV → Hp → Prop} (h1 : cv.cells = [cv]) (h2 : one cv = true) : stR (.ref b 0) (.agg [I n, cv]) 2 (hset h b [I 0, .nils]) R = R (.tup []) (hset h b [I n, cv]) :=
  st_box (cs := [I 0, .nils]) (cs' := [I n, cv]) rfl rfl (by show (one (I n) && (one cv && true)) = true; rw [h2]; rfl)
/-- A matrix over the field has no error. -/
theorem openE_mat {p m : Int} {mo : List Int} {n : Nat} {L : List (List Int)} (hf : FieldP p m mo) (hn : n ≤ 256) (hl : L.length ≤ 256) (hM : Mat (mkD p m mo) n L) : openE p m mo [((n : Int), L)] = 0 := by
  unfold openE
  rw [if_pos hf]
  have : chkE (mkD p m mo) n L = 0 := by
    unfold chkE
    rw [if_neg (by omega), if_neg (fun hh => hh fun row hr => by rw [(hM row hr).1]), if_pos fun row hr x hx => (hM row hr).2 x hx]
  simp only [chkAll]
  rw [if_neg (by simpa using this)]
theorem mat_sm {D : Ds} {n : Nat} {L : List (List Int)} (hn : n ≤ 256) (hl : L.length ≤ 256) (hM : Mat D n L) : MSm L := ⟨by omega, fun row hr => by rw [(hM row hr).1]; omega⟩
theorem pv_get {D : Ds} {L : List (List Int)} {n i : Nat} (hi : i < (elim D L n).pv.length) : (pivL D L n).getD i 0 = (pvF (elim D L n).pv i : Nat) := map_getD' Int.ofNat (elim D L n).pv i 0 0 hi
/-- What a canonical matrix is. -/
structure Rd (D : Ds) (CL : List (List Int)) (rk n : Nat) (pv : List Nat) : Prop where
  len : CL.length = rk
  pvl : pv.length = rk
  le : rk ≤ n
  mat : Mat D n CL
  lt : ∀ i, i < rk → pvF pv i < n
  mono : ∀ i j, i < j → j < rk → pvF pv i < pvF pv j
  unit : ∀ i j, i < rk → j < rk → (CL.getD i []).getD (pvF pv j) 0 = if i = j then 1 else 0
  zero : ∀ i j, i < rk → j < pvF pv i → (CL.getD i []).getD j 0 = 0
theorem rd_of {D : Ds} (r : Fd D) {n : Nat} {L : List (List Int)} (hM : Mat D n L) : Rd D (canL D L n) (rkN D L n) n (elim D L n).pv :=
  ⟨canL_len0 r hM n, rfl, elim_le2 r hM n, canL_mat0 r hM n, fun i hi => can_lt (F := ⟨D, r⟩) hM n hi, fun i j h1 h2 => can_mono (F := ⟨D, r⟩) hM n h1 h2,
   fun i j h1 h2 => can_unit (F := ⟨D, r⟩) hM n h1 h2, fun i j h1 h2 => can_zero (F := ⟨D, r⟩) hM n h1 h2⟩
end Go.AM.Ytmihmgnjnedfcab
end

section
/- Codes of the program, as the conversion gives them. -/
set_option maxRecDepth 100000
namespace Go.AM.Ytmihmgnjnedfcab
open Go Go.AM
-- matrix_Columns
abbrev c_matrix_ColumnsB1_2 : SC := (.cond (.t 46) (.seq (.reg [o 47 (.build [I 0, .nils] []), os (.st (.t 6) (.t 47) 2), o 7 (.mv (ki 6))]) .ret) .skip)
abbrev c_matrix_ColumnsB1_1 : SC := .seq (.reg [o 39 (.mv (.t 11)), o 40 (.bin .lss (.t 39) (ki 0)), o 41 (.mv (.t 40)), og 41 false 0 42 (.mv (.t 11)), og 41 false 0 43 (.fadr (.t 4) 0), og 41 false 0 44 (.ld (.t 43) 1 false), og 41 false 0 45 (.bin .geq (.t 42) (.t 44)), o 46 (.pick (.t 41) (kb true) (.t 45))]) c_matrix_ColumnsB1_2
abbrev c_matrix_ColumnsB1_0 : SC := .seq (.reg [o 37 (.iadr (.t 33) (.t 35) 1), o 38 (.ld (.t 37) 1 false), o 11 (.mv (.t 38))]) c_matrix_ColumnsB1_1
abbrev c_matrix_ColumnsL0_3 : SC := (.reg [o 48 (.bin .add (.t 35) (ki 1)), o 35 (.mv (.t 48))])
abbrev c_matrix_ColumnsL0_2 : SC := .seq (.block 1 c_matrix_ColumnsB1_0) c_matrix_ColumnsL0_3
abbrev c_matrix_ColumnsL0_1 : SC := .seq (.cond (.t 36) .skip (.exit 0)) c_matrix_ColumnsL0_2
abbrev c_matrix_ColumnsL0_0 : SC := .seq (.reg [o 36 (.bin .lss (.t 35) (.t 34))]) c_matrix_ColumnsL0_1
abbrev c_matrix_ColumnsB5_1 : SC := (.reg [o 69 (.mv (.t 15)), o 70 (.mv (.t 16)), o 71 (.mv (.t 14)), o 72 (.mv (.t 17)), o 73 (.iadr (.t 71) (.t 72) 1), o 74 (.ld (.t 73) 1 false), o 75 (.iadr (.t 69) (.t 70) 1), os (.st (.t 75) (.t 74) 1)])
abbrev c_matrix_ColumnsB5_0 : SC := .seq (.reg [o 66 (.mv (.t 64)), o 67 (.iadr (.t 62) (.t 64) 1), o 68 (.ld (.t 67) 1 false), o 16 (.mv (.t 66)), o 17 (.mv (.t 68))]) c_matrix_ColumnsB5_1
abbrev c_matrix_ColumnsL2_3 : SC := (.reg [o 76 (.bin .add (.t 64) (ki 1)), o 64 (.mv (.t 76))])
abbrev c_matrix_ColumnsL2_2 : SC := .seq (.block 5 c_matrix_ColumnsB5_0) c_matrix_ColumnsL2_3
abbrev c_matrix_ColumnsL2_1 : SC := .seq (.cond (.t 65) .skip (.exit 4)) c_matrix_ColumnsL2_2
abbrev c_matrix_ColumnsL2_0 : SC := .seq (.reg [o 65 (.bin .lss (.t 64) (.t 63))]) c_matrix_ColumnsL2_1
abbrev c_matrix_ColumnsB3_3 : SC := .fz [15] ((.reg [o 77 (.fadr (.t 12) 1), o 78 (.ld (.t 77) 1 false), o 79 (.mv (.t 15)), o 80 (.mkl 1 1 [.nils] [(0, (1, .t 79))]), o 81 (.app (.t 78) (.t 80) 1), o 82 (.fadr (.t 12) 1), os (.st (.t 82) (.t 81) 1)]))
abbrev c_matrix_ColumnsB3_2 : SC := .seq (.seq (.reg [o 62 (.mv (.t 2)), o 63 (.len (.t 62)), o 64 (.mv (ki 0))]) (.block 4 (.loop c_matrix_ColumnsL2_0))) c_matrix_ColumnsB3_3
abbrev c_matrix_ColumnsB3_1 : SC := .seq (.reg [o 59 (.mv (.t 2)), o 60 (.len (.t 59)), o 61 (.mks (.t 60) 1 [I 0]), o 15 (.mv (.t 61))]) c_matrix_ColumnsB3_2
abbrev c_matrix_ColumnsB3_0 : SC := .seq (.reg [o 57 (.iadr (.t 53) (.t 55) 1), o 58 (.ld (.t 57) 1 false), o 14 (.mv (.t 58))]) c_matrix_ColumnsB3_1
abbrev c_matrix_ColumnsL1_3 : SC := (.reg [o 83 (.bin .add (.t 55) (ki 1)), o 55 (.mv (.t 83))])
abbrev c_matrix_ColumnsL1_2 : SC := .seq (.block 3 c_matrix_ColumnsB3_0) c_matrix_ColumnsL1_3
abbrev c_matrix_ColumnsL1_1 : SC := .seq (.cond (.t 56) .skip (.exit 2)) c_matrix_ColumnsL1_2
abbrev c_matrix_ColumnsL1_0 : SC := .seq (.reg [o 56 (.bin .lss (.t 55) (.t 54))]) c_matrix_ColumnsL1_1
abbrev c_matrix_Columns_7 : SC := .ret
abbrev c_matrix_Columns_6 : SC := .seq (.reg [o 84 (.ld (.t 12) 2 true), os (.st (.t 6) (.t 84) 2), o 7 (.mv (ki 0))]) c_matrix_Columns_7
abbrev c_matrix_Columns_5 : SC := .seq (.seq (.reg [o 52 (.fadr (.t 4) 1), o 53 (.ld (.t 52) 1 false), o 54 (.len (.t 53)), o 55 (.mv (ki 0))]) (.block 2 (.loop c_matrix_ColumnsL1_0))) c_matrix_Columns_6
abbrev c_matrix_Columns_4 : SC := .seq (.reg [o 49 (.mv (.t 2)), o 50 (.len (.t 49)), o 51 (.build [I 0, .nils] [(0, (1, .t 50))]), o 12 (.new [I 0, .nils]), os (.st (.t 12) (.t 51) 2)]) c_matrix_Columns_5
abbrev c_matrix_Columns_3 : SC := .seq (.seq (.reg [o 33 (.mv (.t 2)), o 34 (.len (.t 33)), o 35 (.mv (ki 0))]) (.block 0 (.loop c_matrix_ColumnsL0_0))) c_matrix_Columns_4
abbrev c_matrix_Columns_2 : SC := .seq (.seq (.reg [o 29 (.mv (.t 2)), o 30 (.len (.t 29)), o 31 (.bin .gtr (.t 30) (ki 256))]) (.cond (.t 31) (.seq (.reg [o 32 (.build [I 0, .nils] []), os (.st (.t 6) (.t 32) 2), o 7 (.mv (ki 8))]) .ret) .skip)) c_matrix_Columns_3
abbrev c_matrix_Columns_1 : SC := .seq (.seq (.reg [o 19 (.ld (.t 3) 3 true), o 20 (.ld (.t 4) 2 true), o 21 (.mkl 1 2 [I 0, .nils] [(0, (2, .t 20))]), o 22 (.call (.f n_matrix_open) [.t 19, .t 21]), o 18 (.mv (.t 22)), o 23 (.ext (.t 18) 0), o 24 (.ext (.t 18) 1), o 8 (.mv (.t 23)), o 9 (.mv (.t 24))]) (.seq (.reg [o 25 (.mv (.t 9)), o 26 (.bin .neq (.t 25) (ki 0))]) (.cond (.t 26) (.seq (.reg [o 27 (.build [I 0, .nils] []), o 28 (.mv (.t 9)), os (.st (.t 6) (.t 27) 2), o 7 (.mv (.t 28))]) .ret) .skip))) c_matrix_Columns_2
abbrev c_matrix_Columns_0 : SC := .seq (.reg [o 3 (.box (.t 0)), o 4 (.box (.t 1)), o 6 (.new [I 0, .nils]), o 7 (.mv (ki 0))]) c_matrix_Columns_1
theorem cf_matrix_Columns : cfun Go.Proofs.Try.prog md n_matrix_Columns = some ⟨3, 85, c_matrix_Columns_0.erase, [.c 6 2 true, .t 7]⟩ := by kernel_rfl
-- matrix_Identity
abbrev c_matrix_Identity_3 : SC := .ret
abbrev c_matrix_Identity_2 : SC := .seq (.reg [o 11 (.mv (.t 0)), o 12 (.mv (.t 0)), o 13 (.call (.f n_matrix_unit) [.t 12]), o 14 (.build [I 0, .nils] [(0, (1, .t 11)), (1, (1, .t 13))]), os (.st (.t 2) (.t 14) 2), o 3 (.mv (ki 0))]) c_matrix_Identity_3
abbrev c_matrix_Identity_1 : SC := .seq (.seq (.reg [o 4 (.mv (.t 0)), o 5 (.bin .lss (.t 4) (ki 0)), o 6 (.mv (.t 5)), og 6 false 0 7 (.mv (.t 0)), og 6 false 0 8 (.bin .gtr (.t 7) (ki 256)), o 9 (.pick (.t 6) (kb true) (.t 8))]) (.cond (.t 9) (.seq (.reg [o 10 (.build [I 0, .nils] []), os (.st (.t 2) (.t 10) 2), o 3 (.mv (ki 6))]) .ret) .skip)) c_matrix_Identity_2
abbrev c_matrix_Identity_0 : SC := .seq (.reg [o 2 (.new [I 0, .nils]), o 3 (.mv (ki 0))]) c_matrix_Identity_1
theorem cf_matrix_Identity : cfun Go.Proofs.Try.prog md n_matrix_Identity = some ⟨1, 15, c_matrix_Identity_0.erase, [.c 2 2 true, .t 3]⟩ := by kernel_rfl
-- ref09_Columns
abbrev c_ref09_ColumnsL0_2 : SC := (.reg [o 27 (.mv (.t 9)), o 28 (.bin .add (.t 27) (ki 1)), o 9 (.mv (.t 28))])
abbrev c_ref09_ColumnsL0_1 : SC := .seq (.block 1 (.seq (.reg [o 29 (.mv (.t 2)), o 30 (.mv (.t 9)), o 31 (.iadr (.t 29) (.t 30) 1), o 32 (.ld (.t 31) 1 false), o 33 (.bin .lss (.t 32) (ki 0)), o 34 (.mv (.t 33)), og 34 false 0 35 (.mv (.t 2)), og 34 false 0 36 (.mv (.t 9)), og 34 false 0 37 (.iadr (.t 35) (.t 36) 1), og 34 false 0 39 (.fadr (.t 4) 0), og 34 false 0 38 (.ld (.t 37) 1 false), og 34 false 0 40 (.ld (.t 39) 1 false), og 34 false 0 41 (.bin .geq (.t 38) (.t 40)), o 42 (.pick (.t 34) (kb true) (.t 41))]) (.cond (.t 42) (.seq (.reg [o 43 (.build [I 0, .nils] []), os (.st (.t 6) (.t 43) 2), o 7 (.mv (ki 6))]) .ret) .skip))) c_ref09_ColumnsL0_2
abbrev c_ref09_ColumnsL0_0 : SC := .seq (.seq (.reg [o 23 (.mv (.t 9)), o 24 (.mv (.t 2)), o 25 (.len (.t 24)), o 26 (.bin .lss (.t 23) (.t 25))]) (.cond (.t 26) .skip (.exit 0))) c_ref09_ColumnsL0_1
abbrev c_ref09_ColumnsL1_2 : SC := (.reg [o 52 (.mv (.t 11)), o 53 (.bin .add (.t 52) (ki 1)), o 11 (.mv (.t 53))])
abbrev c_ref09_ColumnsL1_1 : SC := .seq (.block 3 (.reg [o 54 (.fadr (.t 10) 1), o 56 (.fadr (.t 4) 1), o 58 (.mv (.t 11)), o 61 (.mv (.t 2)), o 55 (.ld (.t 54) 1 false), o 57 (.ld (.t 56) 1 false), o 59 (.iadr (.t 57) (.t 58) 1), o 60 (.ld (.t 59) 1 false), om 1 62 (.call (.f n_ref09_Pick) [.t 60, .t 61]), o 63 (.mkl 1 1 [.nils] [(0, (1, .t 62))]), o 64 (.app (.t 55) (.t 63) 1), o 65 (.fadr (.t 10) 1), os (.st (.t 65) (.t 64) 1)])) c_ref09_ColumnsL1_2
abbrev c_ref09_ColumnsL1_0 : SC := .seq (.seq (.reg [o 47 (.mv (.t 11)), o 48 (.fadr (.t 4) 1), o 49 (.ld (.t 48) 1 false), o 50 (.len (.t 49)), o 51 (.bin .lss (.t 47) (.t 50))]) (.cond (.t 51) .skip (.exit 2))) c_ref09_ColumnsL1_1
abbrev c_ref09_Columns_8 : SC := .ret
abbrev c_ref09_Columns_7 : SC := .seq (.reg [o 66 (.ld (.t 10) 2 true), os (.st (.t 6) (.t 66) 2), o 7 (.mv (ki 0))]) c_ref09_Columns_8
abbrev c_ref09_Columns_6 : SC := .seq (.seq (.reg [o 11 (.mv (ki 0))]) (.block 2 (.loop c_ref09_ColumnsL1_0))) c_ref09_Columns_7
abbrev c_ref09_Columns_5 : SC := .seq (.reg [o 44 (.mv (.t 2)), o 45 (.len (.t 44)), o 46 (.build [I 0, .nils] [(0, (1, .t 45))]), o 10 (.new [I 0, .nils]), os (.st (.t 10) (.t 46) 2)]) c_ref09_Columns_6
abbrev c_ref09_Columns_4 : SC := .seq (.seq (.reg [o 9 (.mv (ki 0))]) (.block 0 (.loop c_ref09_ColumnsL0_0))) c_ref09_Columns_5
abbrev c_ref09_Columns_3 : SC := .seq (.seq (.reg [o 19 (.mv (.t 2)), o 20 (.len (.t 19)), o 21 (.bin .gtr (.t 20) (ki 256))]) (.cond (.t 21) (.seq (.reg [o 22 (.build [I 0, .nils] []), os (.st (.t 6) (.t 22) 2), o 7 (.mv (ki 8))]) .ret) .skip)) c_ref09_Columns_4
abbrev c_ref09_Columns_2 : SC := .seq (.seq (.reg [o 15 (.mv (.t 8)), o 16 (.bin .neq (.t 15) (ki 0))]) (.cond (.t 16) (.seq (.reg [o 17 (.build [I 0, .nils] []), o 18 (.mv (.t 8)), os (.st (.t 6) (.t 17) 2), o 7 (.mv (.t 18))]) .ret) .skip)) c_ref09_Columns_3
abbrev c_ref09_Columns_1 : SC := .seq (.reg [o 12 (.ld (.t 3) 3 true), o 13 (.ld (.t 4) 2 true), o 14 (.call (.f n_ref09_Check) [.t 12, .t 13]), o 8 (.mv (.t 14))]) c_ref09_Columns_2
abbrev c_ref09_Columns_0 : SC := .seq (.reg [o 3 (.box (.t 0)), o 4 (.box (.t 1)), o 6 (.new [I 0, .nils]), o 7 (.mv (ki 0))]) c_ref09_Columns_1
theorem cf_ref09_Columns : cfun Go.Proofs.Try.prog md n_ref09_Columns = some ⟨3, 67, c_ref09_Columns_0.erase, [.c 6 2 true, .t 7]⟩ := by kernel_rfl
-- ref09_Identity
abbrev c_ref09_Identity_3 : SC := .ret
abbrev c_ref09_Identity_2 : SC := .seq (.reg [o 11 (.mv (.t 0)), o 12 (.mv (.t 0)), o 13 (.call (.f n_ref09_Unit) [.t 12]), o 14 (.build [I 0, .nils] [(0, (1, .t 11)), (1, (1, .t 13))]), os (.st (.t 2) (.t 14) 2), o 3 (.mv (ki 0))]) c_ref09_Identity_3
abbrev c_ref09_Identity_1 : SC := .seq (.seq (.reg [o 4 (.mv (.t 0)), o 5 (.bin .lss (.t 4) (ki 0)), o 6 (.mv (.t 5)), og 6 false 0 7 (.mv (.t 0)), og 6 false 0 8 (.bin .gtr (.t 7) (ki 256)), o 9 (.pick (.t 6) (kb true) (.t 8))]) (.cond (.t 9) (.seq (.reg [o 10 (.build [I 0, .nils] []), os (.st (.t 2) (.t 10) 2), o 3 (.mv (ki 6))]) .ret) .skip)) c_ref09_Identity_2
abbrev c_ref09_Identity_0 : SC := .seq (.reg [o 2 (.new [I 0, .nils]), o 3 (.mv (ki 0))]) c_ref09_Identity_1
theorem cf_ref09_Identity : cfun Go.Proofs.Try.prog md n_ref09_Identity = some ⟨1, 15, c_ref09_Identity_0.erase, [.c 2 2 true, .t 3]⟩ := by kernel_rfl
-- ref09_Unit
abbrev c_ref09_UnitL0_2 : SC := (.reg [o 9 (.mv (.t 4)), o 10 (.bin .add (.t 9) (ki 1)), o 4 (.mv (.t 10))])
abbrev c_ref09_UnitL0_1 : SC := .seq (.block 1 (.seq (.reg [o 11 (.mv (.t 0)), o 12 (.mks (.t 11) 1 [I 0]), o 5 (.mv (.t 12))]) (.seq (.reg [o 13 (.mv (.t 5)), o 14 (.mv (.t 4)), o 15 (.iadr (.t 13) (.t 14) 1), os (.st (.t 15) (ki 1) 1)]) (.reg [o 16 (.mv (.t 3)), o 17 (.mv (.t 5)), o 18 (.mkl 1 1 [.nils] [(0, (1, .t 17))]), o 19 (.app (.t 16) (.t 18) 1), o 3 (.mv (.t 19))])))) c_ref09_UnitL0_2
abbrev c_ref09_UnitL0_0 : SC := .seq (.seq (.reg [o 6 (.mv (.t 4)), o 7 (.mv (.t 0)), o 8 (.bin .lss (.t 6) (.t 7))]) (.cond (.t 8) .skip (.exit 0))) c_ref09_UnitL0_1
abbrev c_ref09_Unit_4 : SC := .ret
abbrev c_ref09_Unit_3 : SC := .seq (.reg [o 20 (.mv (.t 3)), o 2 (.mv (.t 20))]) c_ref09_Unit_4
abbrev c_ref09_Unit_2 : SC := .seq (.seq (.reg [o 4 (.mv (ki 0))]) (.block 0 (.loop c_ref09_UnitL0_0))) c_ref09_Unit_3
abbrev c_ref09_Unit_1 : SC := .seq (.reg [o 3 (.mv (.k .nils))]) c_ref09_Unit_2
abbrev c_ref09_Unit_0 : SC := .seq (.reg [o 2 (.mv (.k .nils))]) c_ref09_Unit_1
theorem cf_ref09_Unit : cfun Go.Proofs.Try.prog md n_ref09_Unit = some ⟨1, 21, c_ref09_Unit_0.erase, [.t 2]⟩ := by kernel_rfl
-- ref09_Vec
abbrev c_ref09_Vec_5 : SC := .ret
abbrev c_ref09_Vec_4 : SC := .seq (.reg [o 23 (.ld (.t 3) 3 true), o 24 (.mv (.t 1)), o 25 (.fadr (.t 5) 1), o 26 (.ld (.t 25) 1 false), o 27 (.fadr (.t 5) 0), o 28 (.ld (.t 27) 1 false), o 29 (.call (.f n_ref09_Combine) [.t 23, .t 24, .t 26, .t 28]), o 6 (.mv (.t 29)), o 7 (.mv (ki 0))]) c_ref09_Vec_5
abbrev c_ref09_Vec_3 : SC := .seq (.seq (.reg [o 20 (.mv (.t 8)), o 21 (.bin .neq (.t 20) (ki 0))]) (.cond (.t 21) (.seq (.reg [o 22 (.mv (.t 8)), o 6 (.mv (.k .nils)), o 7 (.mv (.t 22))]) .ret) .skip)) c_ref09_Vec_4
abbrev c_ref09_Vec_2 : SC := .seq (.seq (.reg [o 12 (.mv (.t 8)), o 13 (.bin .eql (.t 12) (ki 0))]) (.cond (.t 13) (.reg [o 14 (.ld (.t 3) 3 true), o 15 (.mv (.t 1)), o 16 (.fadr (.t 5) 1), o 17 (.ld (.t 16) 1 false), o 18 (.len (.t 17)), o 19 (.call (.f n_ref09_Vector) [.t 14, .t 15, .t 18]), o 8 (.mv (.t 19))]) .skip)) c_ref09_Vec_3
abbrev c_ref09_Vec_1 : SC := .seq (.reg [o 9 (.ld (.t 3) 3 true), o 10 (.ld (.t 5) 2 true), o 11 (.call (.f n_ref09_Check) [.t 9, .t 10]), o 8 (.mv (.t 11))]) c_ref09_Vec_2
abbrev c_ref09_Vec_0 : SC := .seq (.reg [o 3 (.box (.t 0)), o 5 (.box (.t 2)), o 6 (.mv (.k .nils)), o 7 (.mv (ki 0))]) c_ref09_Vec_1
theorem cf_ref09_Vec : cfun Go.Proofs.Try.prog md n_ref09_Vec = some ⟨3, 30, c_ref09_Vec_0.erase, [.t 6, .t 7]⟩ := by kernel_rfl
end Go.AM.Ytmihmgnjnedfcab
end

section
/- Codes of the program, as the conversion gives them. -/
set_option maxRecDepth 100000
namespace Go.AM.Ytmihmgnjnedfcab
open Go Go.AM
-- law09_MatrixPicks
abbrev c_law09_MatrixPicks_11 : SC := .ret
abbrev c_law09_MatrixPicks_10 : SC := .seq (.reg [o 93 (.mv (.t 8)), o 94 (.mv (.t 10)), o 95 (.bin .eql (.t 93) (.t 94)), o 96 (.mv (.t 95)), og 96 true 0 97 (.ld (.t 7) 2 true), og 96 true 0 98 (.ld (.t 9) 2 true), og 96 true 0 99 (.call (.f n_ref09_Same) [.t 97, .t 98]), o 100 (.pick (.t 96) (.t 99) (kb false)), o 6 (.mv (.t 100))]) c_law09_MatrixPicks_11
abbrev c_law09_MatrixPicks_9 : SC := .seq (.reg [o 87 (.mv (.t 2)), o 88 (.iadr (.t 87) (ki 0) 1), o 89 (.ld (.t 88) 1 false), o 90 (.call (.f n_ref09_Identity) [.t 89]), o 86 (.mv (.t 90)), o 91 (.ext (.t 86) 0), o 92 (.ext (.t 86) 1), os (.st (.t 9) (.t 91) 2), o 10 (.mv (.t 92))]) c_law09_MatrixPicks_10
abbrev c_law09_MatrixPicks_8 : SC := .seq (.reg [o 80 (.mv (.t 2)), o 81 (.iadr (.t 80) (ki 0) 1), o 82 (.ld (.t 81) 1 false), o 83 (.call (.f n_matrix_Identity) [.t 82]), o 79 (.mv (.t 83)), o 84 (.ext (.t 79) 0), o 85 (.ext (.t 79) 1), os (.st (.t 7) (.t 84) 2), o 8 (.mv (.t 85))]) c_law09_MatrixPicks_9
abbrev c_law09_MatrixPicks_7 : SC := .seq (.seq (.reg [o 76 (.mv (.t 2)), o 77 (.len (.t 76)), o 78 (.bin .eql (.t 77) (ki 0))]) (.cond (.t 78) (.seq (.reg [o 6 (.mv (kb true))]) .ret) .skip)) c_law09_MatrixPicks_8
abbrev c_law09_MatrixPicks_6 : SC := .seq (.seq (.reg [o 56 (.mv (.t 8)), o 57 (.mv (.t 10)), o 58 (.bin .neq (.t 56) (.t 57)), o 59 (.mv (.t 58)), og 59 false 0 60 (.ld (.t 7) 2 true), og 59 false 0 61 (.ld (.t 9) 2 true), og 59 false 0 62 (.call (.f n_ref09_Same) [.t 60, .t 61]), og 59 false 0 63 (.not (.t 62)), o 64 (.pick (.t 59) (kb true) (.t 63)), o 65 (.mv (.t 64)), og 65 false 0 66 (.mv (.t 12)), og 65 false 0 67 (.mv (.t 14)), og 65 false 0 68 (.bin .neq (.t 66) (.t 67)), o 69 (.pick (.t 65) (kb true) (.t 68)), o 70 (.mv (.t 69)), og 70 false 0 71 (.mv (.t 11)), og 70 false 0 72 (.mv (.t 13)), og 70 false 0 73 (.call (.f n_ref09_SameInts) [.t 71, .t 72]), og 70 false 0 74 (.not (.t 73)), o 75 (.pick (.t 70) (kb true) (.t 74))]) (.cond (.t 75) (.seq (.reg [o 6 (.mv (kb false))]) .ret) .skip)) c_law09_MatrixPicks_7
abbrev c_law09_MatrixPicks_5 : SC := .seq (.reg [o 50 (.ld (.t 3) 3 true), o 51 (.mv (.t 2)), o 52 (.ld (.t 4) 2 true), o 53 (.call (.f n_ref09_Vec) [.t 50, .t 51, .t 52]), o 49 (.mv (.t 53)), o 54 (.ext (.t 49) 0), o 55 (.ext (.t 49) 1), o 13 (.mv (.t 54)), o 14 (.mv (.t 55))]) c_law09_MatrixPicks_6
abbrev c_law09_MatrixPicks_4 : SC := .seq (.reg [o 43 (.ld (.t 3) 3 true), o 44 (.mv (.t 2)), o 45 (.ld (.t 4) 2 true), o 46 (.call (.f n_matrix_Vec) [.t 43, .t 44, .t 45]), o 42 (.mv (.t 46)), o 47 (.ext (.t 42) 0), o 48 (.ext (.t 42) 1), o 11 (.mv (.t 47)), o 12 (.mv (.t 48))]) c_law09_MatrixPicks_5
abbrev c_law09_MatrixPicks_3 : SC := .seq (.reg [o 36 (.ld (.t 3) 3 true), o 37 (.ld (.t 4) 2 true), o 38 (.mv (.t 2)), o 39 (.call (.f n_ref09_Columns) [.t 36, .t 37, .t 38]), o 35 (.mv (.t 39)), o 40 (.ext (.t 35) 0), o 41 (.ext (.t 35) 1), o 9 (.new [I 0, .nils]), os (.st (.t 9) (.t 40) 2), o 10 (.mv (.t 41))]) c_law09_MatrixPicks_4
abbrev c_law09_MatrixPicks_2 : SC := .seq (.reg [o 29 (.ld (.t 3) 3 true), o 30 (.ld (.t 4) 2 true), o 31 (.mv (.t 2)), o 32 (.call (.f n_matrix_Columns) [.t 29, .t 30, .t 31]), o 28 (.mv (.t 32)), o 33 (.ext (.t 28) 0), o 34 (.ext (.t 28) 1), o 7 (.new [I 0, .nils]), os (.st (.t 7) (.t 33) 2), o 8 (.mv (.t 34))]) c_law09_MatrixPicks_3
abbrev c_law09_MatrixPicks_1 : SC := .seq (.seq (.reg [o 15 (.call (.f n_law09_awake) []), o 16 (.not (.t 15)), o 17 (.mv (.t 16)), og 17 false 0 18 (.ld (.t 4) 2 true), og 17 false 0 19 (.call (.f n_ref09_Few) [.t 18, ki 300]), og 17 false 0 20 (.not (.t 19)), o 21 (.pick (.t 17) (kb true) (.t 20)), o 22 (.mv (.t 21)), og 22 false 0 23 (.mv (.t 2)), og 22 false 0 24 (.len (.t 23)), og 22 false 0 25 (.bin .gtr (.t 24) (ki 300)), o 26 (.pick (.t 22) (kb true) (.t 25))]) (.cond (.t 26) (.seq (.reg [o 27 (.call (.f n_law09_awake) []), o 6 (.mv (.t 27))]) .ret) .skip)) c_law09_MatrixPicks_2
abbrev c_law09_MatrixPicks_0 : SC := .seq (.reg [o 3 (.box (.t 0)), o 4 (.box (.t 1)), o 6 (.mv (kb false))]) c_law09_MatrixPicks_1
theorem cf_law09_MatrixPicks : cfun Go.Proofs.Try.prog md n_law09_MatrixPicks = some ⟨3, 101, c_law09_MatrixPicks_0.erase, [.t 6]⟩ := by kernel_rfl
end Go.AM.Ytmihmgnjnedfcab
end

section
/- Contracts of functions: Columns, Identity, the reference's Unit, Vec. -/
set_option maxRecDepth 100000
set_option linter.unusedSimpArgs false
set_option linter.unusedVariables false
namespace Go.AM.Ytmihmgnjnedfcab
open Go Go.AM
attribute [local simp ↓] awp_seq awp_reg awp_skip awp_cond' awp_block awp_exit awp_ret awp_fz thenW_normal thenW_exit thenW_ret inBlk_normal inBlk_exit inBlk_ret aops_cons' contA_ap aops_nil e_mv e_guard' e_pick' e_ld' e_app e_cpy e_st' e_call callW_f updO_some updO_none e_bin' e_isnil' e_fadr' e_iadr' e_iarr' e_len' e_build' e_mkf' e_nc' e_not' e_neg' e_cvt' e_slc' e_fld' e_ext' e_min' e_eqs' e_new e_box e_mkl e_mks
attribute [local simp] upd_apply ev_t ev_k ev_f binA_add binA_sub binA_mul binA_quo binA_rem binA_eql binA_neq binA_lss binA_leq binA_gtr binA_geq det mem frame0 keeps_nil iadrA_sl fadrA_ref fadrA_fp ldv_agg ldv_one cells_base hset_same hset_hset lenA_fs lenA_sl lenA_nils zeros_ints ints_length one_base one_nilp one_nils one_ref one_sl one_fp one_fs one_fn gl_one resA resOf bound natOf afill splice AV.cells cells_agg bindR_some condR_true condR_false guardR_tup guardR_true guardR_true' guardR_false guardR_false' allocW_some pickA_true pickA_false
open Go.FM

set_option maxHeartbeats 1000000 in
theorem s_refVec {p m : Int} {mv v xv : AV} {mo : List Int} (hmv : IL mv mo) (hml : mo.length < 4611686018427387904) {c : Int} {L : List (List Int)} (hv : ML v L) (hs : MSm L) {x : List Int} (hx : IL xv x) (hxl : x.length < 4611686018427387904) :
    Pure prog n_ref09_Vec [.agg [I p, I m, mv], xv, .agg [I c, v]] (vecR p m mo c L x) := by
  refine pure_of cf_ref09_Vec rfl fun h => ?_
  have hone := hmv.one
  have hone2 := hv.one
  unfold c_ref09_Vec_0 c_ref09_Vec_1
  generalize hC : c_ref09_Vec_2 = C2
  simp [hone, hone2]
  intro b3 hb3 b5 hb5
  obtain ⟨g3, g5, hk⟩ := two_boxes (ys := [I c, v]) hb3 hb5
  generalize hset (hset h b3 [I p, I m, mv]) b5 [I c, v] = g at *
  obtain ⟨_, _, _, l3⟩ := ld3_at g3
  have l5 := lq_both g5
  have l50 := lq_fst g5
  have l51 := lq_snd g5
  simp [l3, l5]
  refine (s_ref09Check (p := p) (m := m) hmv hml (c := c) hv hs).call ?_
  have bad : ∀ e, vecE p m mo c L x = e → e ≠ 0 → RetP h (vecR p m mo c L x) (.tup [.nils, I e]) g := fun e he h0 => by
    rw [vecR, if_neg (by rw [he]; exact h0), he]; exact ⟨_, hk.sub, .id _, rfl⟩
  by_cases he : openE p m mo [(c, L)] = 0
  case neg =>
    have hb := bad _ (by rw [vecE, if_pos he]) he
    generalize openE p m mo [(c, L)] = e at *
    simp
    subst hC
    simp [he]
    exact hb
  have hE2 : vecE p m mo c L x = vctE (mkD p m mo) x L.length := by rw [vecE, if_neg (by simpa using he)]; rfl
  obtain ⟨hf, n, rfl, hn, hLn, hM⟩ := openE_one he
  rw [he]
  have r := hf.fd
  have hmv2 : IL mv (mkD p m mo).mo := hmv
  have hvc := s_Vector r.toRg hone hx hxl L.length
  rw [hf.1.dp, hf.1.dm] at hvc
  simp
  subst hC
  unfold c_ref09_Vec_2
  generalize hC : c_ref09_Vec_3 = C3
  simp [l3, l51, hv.len]
  refine hvc.call ?_
  by_cases hen : vctE (mkD p m mo) x L.length = 0
  case neg =>
    have hb' := bad _ hE2 hen
    generalize vctE (mkD p m mo) x L.length = e at *
    simp
    subst hC
    simp [hen]
    exact hb'
  rw [hen]
  rw [hen] at hE2
  have hxL : x.length = L.length := by
    unfold vctE at hen
    split at hen
    · omega
    · omega
  have hco := s_Combine r hmv2 hx hv hxl (by omega) (n := n) (by omega) (fun i hi => by rw [hM.len hi]; exact Nat.le_refl n)
  rw [hf.1.dp, hf.1.dm, show min L.length x.length = x.length by omega] at hco
  have hV : vecR p m mo n L x = .tup [.fs n (ints (combK (mkD p m mo) x L n x.length)), I 0] := by rw [vecR, if_pos hE2, Int.toNat_natCast]
  rw [hV]
  simp
  subst hC
  simp [l3, l50, l51]
  refine hco.call ?_
  simp
  exact ⟨_, hk.sub, .id _, rfl⟩

theorem s_refUnit {n : Nat} (hn : n ≤ 65536) : Pure prog n_ref09_Unit [I n] (gml (unitL n)) := by
  refine pure_of cf_ref09_Unit rfl fun h => ?_
  have hn' : (n : Int) ≤ 4294967296 := by omega
  have hul := unitL_len n
  simp
  refine awp_for n (fun k fr' h' => GrM h h' (fr' 3) ((unitL n).take k) ∧ fr' 4 = I k) ⟨by simpa using GrM.nils h, by simp⟩ ?_
  intro k fr' h' hkn hk ⟨gm, k4⟩
  have k0 := hk 0 (by decide)
  simp at k0
  clear hk
  by_cases hlt : k < n
  · have u1 : IntKind.i64.wrap ((k : Int) + 1) = k + 1 := w64 _ (by omega)
    have hur := unitL_row hlt
    have htl : ((unitL n).take k).length = k := by rw [List.length_take]; omega
    rw [take_getD (d := []) (by omega), hur]
    simp [k0, k4, hlt, hn']
    intro b hb
    have gp := gm.new hb (List.replicate n 0)
    have st1 := fun R => sr_ints (R := R) (v := 1) gp.ld (k := k) (by simpa using hlt)
    have gp1 := gp.set ((List.replicate n 0).set k 1)
    rw [hset_hset] at gp1 st1
    have hll : ((List.replicate n (0 : Int)).set k 1).length = n := by simp
    have ap := fun R b2 hb2 => gp1.app (R := R) (b2 := b2) hb2 (by omega)
    rw [hll] at ap
    simp [k4, hlt, st1]
    intro b2 hb2
    refine ap _ _ hb2 fun v' h3 g3 => ?_
    simp [k4, u1, hlt]
    exact g3
  · have : k = n := by omega
    subst this
    rw [List.take_of_length_le (by omega)] at gm
    simp [k0, k4]
    exact gm.ret (Kp.refl h)

theorem gl_or (n : Nat) (cs : List AV) : gl n cs = .nils ∨ gl n cs = .fs n cs := by
  unfold gl; split
  · exact .inl rfl
  · exact .inr rfl
theorem s_refIdentity (n : Int) : Pure prog n_ref09_Identity [I n] (if n < 0 ∨ 256 < n then .tup [.agg [I 0, .nils], I 6] else .tup [.agg [I n, gml (unitL n.toNat)], I 0]) := by
  refine pure_of cf_ref09_Identity rfl fun h => ?_
  unfold c_ref09_Identity_0 c_ref09_Identity_1
  generalize hC : c_ref09_Identity_2 = C2
  simp
  intro b hb
  have g2 := hset_same h b [I 0, .nils]
  have hk := (Kp.refl h).new hb [I 0, .nils]
  have hno := hb
  generalize hset h b [I 0, .nils] = G at *
  have st0 := fun R => sr_all (R := R) (cs' := [I 0, .nils]) g2 (n := 2) rfl rfl rfl
  rw [hset_id g2] at st0
  have l2 := lq_both g2
  by_cases h1 : n < 0
  · rw [if_pos (.inl h1)]
    simp [h1, st0, l2]
    exact ⟨_, hk.sub, .id _, rfl⟩
  by_cases h2 : 256 < n
  · rw [if_pos (.inr h2)]
    simp [h1, h2, st0, l2]
    exact ⟨_, hk.sub, .id _, rfl⟩
  rw [if_neg (by omega)]
  obtain ⟨k, rfl⟩ : ∃ k : Nat, n = k := ⟨n.toNat, by omega⟩
  rw [Int.toNat_natCast]
  have hu := s_refUnit (n := k) (by omega)
  have hor := gl_or (unitL k).length ((unitL k).map frow)
  unfold gml at *
  generalize gl (unitL k).length ((unitL k).map frow) = uv at *
  simp [h1, h2]
  subst hC
  rcases hor with rfl | rfl
  · have st := fun R => sr_all (R := R) (cs' := [I k, .nils]) g2 (n := 2) rfl rfl rfl
    have l4 := lq_both (hset_same G b [I k, .nils])
    simp
    refine hu.call ?_
    simp [st, l4]
    exact ⟨_, (hk.set hno _).sub, .id _, rfl⟩
  · have st := fun R => sr_all (R := R) (cs' := [I k, .fs (unitL k).length ((unitL k).map frow)]) g2 (n := 2) rfl rfl rfl
    have l4 := lq_both (hset_same G b [I k, .fs (unitL k).length ((unitL k).map frow)])
    generalize (unitL k).map frow = cl at *
    simp
    refine hu.call ?_
    simp [st, l4]
    exact ⟨_, (hk.set hno _).sub, .id _, rfl⟩

theorem s_Identity (n : Int) : Pure prog n_matrix_Identity [I n] (if n < 0 ∨ 256 < n then .tup [.agg [I 0, .nils], I 6] else .tup [.agg [I n, .fs n.toNat ((unitL n.toNat).map frow)], I 0]) := by
  refine pure_of cf_matrix_Identity rfl fun h => ?_
  unfold c_matrix_Identity_0 c_matrix_Identity_1
  generalize hC : c_matrix_Identity_2 = C2
  simp
  intro b hb
  have g2 := hset_same h b [I 0, .nils]
  have hk := (Kp.refl h).new hb [I 0, .nils]
  have hno := hb
  generalize hset h b [I 0, .nils] = G at *
  have st0 := fun R => sr_all (R := R) (cs' := [I 0, .nils]) g2 (n := 2) rfl rfl rfl
  rw [hset_id g2] at st0
  have l2 := lq_both g2
  by_cases h1 : n < 0
  · rw [if_pos (.inl h1)]
    simp [h1, st0, l2]
    exact ⟨_, hk.sub, .id _, rfl⟩
  by_cases h2 : 256 < n
  · rw [if_pos (.inr h2)]
    simp [h1, h2, st0, l2]
    exact ⟨_, hk.sub, .id _, rfl⟩
  rw [if_neg (by omega)]
  obtain ⟨k, rfl⟩ : ∃ k : Nat, n = k := ⟨n.toNat, by omega⟩
  rw [Int.toNat_natCast]
  simp [h1, h2]
  subst hC
  simp
  refine call0 (w_unit (n := k) (by omega) G) fun v1 h1 ⟨o2, bs2, hv1, a2⟩ => ?_
  subst hv1
  have hul := unitL_len k
  rw [hul]
  have g2' := a2.kp _ _ g2
  have st := fun R => sr_all (R := R) (cs' := [I k, .sl o2 0 k 1]) g2' (n := 2) rfl rfl rfl
  have l4 := lq_both (hset_same h1 b [I k, .sl o2 0 k 1])
  have fz := ((a2.set g2 [I k, .sl o2 0 k 1]).mono (hk.set hno _)).frzP (r := k) (by rw [hul]; exact Nat.le_refl k)
  rw [List.take_of_length_le (by rw [hul]; exact Nat.le_refl k)] at fz
  simp [st, l4]
  exact RetP.tup fz.1 rfl (frz2 (.agg _ _ rfl (frz2 (.id _) fz.2)) (.id _))
end Go.AM.Ytmihmgnjnedfcab
end

section
/- Contracts of functions: Columns. -/
set_option maxRecDepth 100000
set_option linter.unusedSimpArgs false
set_option linter.unusedVariables false
namespace Go.AM.Ytmihmgnjnedfcab
open Go Go.AM
attribute [local simp ↓] awp_seq awp_reg awp_skip awp_cond' awp_block awp_exit awp_ret awp_fz thenW_normal thenW_exit thenW_ret inBlk_normal inBlk_exit inBlk_ret aops_cons' contA_ap aops_nil e_mv e_guard' e_pick' e_ld' e_app e_cpy e_st' e_call callW_f updO_some updO_none e_bin' e_isnil' e_fadr' e_iadr' e_iarr' e_len' e_build' e_mkf' e_nc' e_not' e_neg' e_cvt' e_slc' e_fld' e_ext' e_min' e_eqs' e_new e_box e_mkl e_mks
attribute [local simp] upd_apply ev_t ev_k ev_f binA_add binA_sub binA_mul binA_quo binA_rem binA_eql binA_neq binA_lss binA_leq binA_gtr binA_geq det mem frame0 keeps_nil iadrA_sl fadrA_ref fadrA_fp ldv_agg ldv_one cells_base hset_same hset_hset lenA_fs lenA_sl lenA_nils zeros_ints ints_length one_base one_nilp one_nils one_ref one_sl one_fp one_fs one_fn gl_one resA resOf bound natOf afill splice AV.cells cells_agg bindR_some condR_true condR_false guardR_tup guardR_true guardR_true' guardR_false guardR_false' allocW_some pickA_true pickA_false
open Go.FM

def colM (L : List (List Int)) (s : List Int) : List (List Int) := L.map fun row => s.map fun x => row.getD x.toNat 0
open Classical in
noncomputable def colE (p m : Int) (mo : List Int) (c : Int) (L : List (List Int)) (s : List Int) : Int :=
  if openE p m mo [(c, L)] ≠ 0 then openE p m mo [(c, L)] else if 256 < s.length then 8 else if ∃ x ∈ s, x < 0 ∨ c ≤ x then 6 else 0
open Classical in
noncomputable def colR (p m : Int) (mo : List Int) (c : Int) (L : List (List Int)) (s : List Int) : AV :=
  if colE p m mo c L s = 0 then .tup [.agg [I s.length, gml (colM L s)], I 0] else .tup [.agg [I 0, .nils], I (colE p m mo c L s)]

set_option maxHeartbeats 2000000 in
theorem s_refColumns {p m : Int} {mv v sv : AV} {mo : List Int} (hmv : IL mv mo) (hml : mo.length < 4611686018427387904) {c : Int} {L : List (List Int)} (hv : ML v L) (hs : MSm L) {s : List Int} (hx : IL sv s) (hxl : s.length < 4611686018427387904) :
    Pure prog n_ref09_Columns [.agg [I p, I m, mv], .agg [I c, v], sv] (colR p m mo c L s) := by
  classical
  refine pure_of cf_ref09_Columns rfl fun h => ?_
  have hone := hmv.one
  have hone2 := hv.one
  unfold c_ref09_Columns_0 c_ref09_Columns_1
  generalize hC : c_ref09_Columns_2 = C2
  simp [hone, hone2]
  intro b3 hb3 b4 hb4 b6 hb6
  obtain ⟨g3, g4, g6, hk, n6⟩ := three_boxes (zs := [I 0, .nils]) hb3 hb4 hb6
  generalize hset (hset (hset h b3 [I p, I m, mv]) b4 [I c, v]) b6 [I 0, .nils] = G at *
  obtain ⟨_, _, _, l3⟩ := ld3_at g3
  have l4 := lq_both g4
  have l40 := lq_fst g4
  have l41 := lq_snd g4
  have st0 := fun R => sr_all (R := R) (cs' := [I 0, .nils]) g6 (n := 2) rfl rfl rfl
  rw [hset_id g6] at st0
  have l6 := lq_both g6
  have bad : ∀ e, colE p m mo c L s = e → e ≠ 0 → RetP h (colR p m mo c L s) (.tup [.agg [I 0, .nils], I e]) G := fun e he h0 => by
    rw [colR, if_neg (by rw [he]; exact h0), he]; exact ⟨_, hk.sub, .id _, rfl⟩
  simp [l3, l4]
  refine (s_ref09Check (p := p) (m := m) hmv hml (c := c) hv hs).call ?_
  by_cases he : openE p m mo [(c, L)] = 0
  case neg =>
    have hb := bad _ (by rw [colE, if_pos he]) he
    generalize openE p m mo [(c, L)] = e at *
    simp
    subst hC
    simp [he, st0, l6]
    exact hb
  have hE2 : colE p m mo c L s = if 256 < s.length then 8 else if ∃ x ∈ s, x < 0 ∨ c ≤ x then 6 else 0 := by rw [colE, if_neg (by simpa using he)]
  obtain ⟨hf, n, rfl, hn, hLn, hM⟩ := openE_one he
  rw [he]
  simp
  subst hC
  unfold c_ref09_Columns_2
  generalize hC : c_ref09_Columns_3 = C3
  simp
  subst hC
  unfold c_ref09_Columns_3
  generalize hC : c_ref09_Columns_4 = C4
  by_cases hbig : 256 < s.length
  · have hbig' : 256 < (s.length : Int) := by omega
    have hb := bad 8 (by rw [hE2, if_pos hbig]) (by omega)
    simp [hx.len, hbig, hbig', st0, l6]
    exact hb
  rw [if_neg hbig] at hE2
  have hbig' : ¬ 256 < (s.length : Int) := by omega
  simp [hx.len, hbig, hbig']
  subst hC
  unfold c_ref09_Columns_4
  generalize hC : c_ref09_Columns_5 = C5
  simp
  refine awp_for s.length (fun k fr' h' => h' = G ∧ fr' 9 = I k ∧ ∀ x ∈ s.take k, 0 ≤ x ∧ x < n) ⟨rfl, by simp, by simp⟩ ?_
  intro k fr1 h1 hkn hk0 ⟨hh, k9, hin⟩
  subst hh
  have k2 := hk0 2 (by decide)
  have k4 := hk0 4 (by decide)
  have k6 := hk0 6 (by decide)
  simp at k2 k4 k6
  clear hk0
  by_cases hlt : k < s.length
  · have u1 : IntKind.i64.wrap ((k : Int) + 1) = k + 1 := w64 _ (by omega)
    have hia := hx.iadr (i := k) ⟨by omega, by omega⟩
    rw [Int.toNat_natCast] at hia
    have hld := fun h' => ld_ints (h := h') (l := s) (k := k) (by omega)
    have hmem := mem_getD (l := s) (d := 0) hlt
    rw [take_getD (d := 0) hlt]
    have b6 := fun (hb : s.getD k 0 < 0 ∨ (n : Int) ≤ s.getD k 0) => bad 6 (by rw [hE2, if_pos ⟨_, hmem, hb⟩]) (by omega)
    generalize s.getD k 0 = y at *
    by_cases c1 : y < 0
    · simp [k2, k9, hx.len, hlt, hia, hld, c1, k6, st0, l6]
      exact b6 (.inl c1)
    by_cases c2 : (n : Int) ≤ y
    · simp [k2, k4, k9, hx.len, hlt, hia, hld, c1, c2, l40, k6, st0, l6]
      exact b6 (.inr c2)
    · simp [k2, k4, k9, hx.len, hlt, hia, hld, c1, c2, l40, u1]
      intro x hxx
      rcases hxx with hxx | rfl
      · exact hin x hxx
      · omega
  have hks : k = s.length := by omega
  subst hks
  rw [List.take_length] at hin
  have hE3 : colE p m mo n L s = 0 := by
    rw [hE2, if_neg]
    rintro ⟨x, h1, h2⟩
    have := hin x h1; omega
  have hR : colR p m mo n L s = .tup [.agg [I s.length, gml (colM L s)], I 0] := by rw [colR, if_pos hE3]
  rw [hR]
  simp [k2, k9, hx.len]
  subst hC
  unfold c_ref09_Columns_5
  generalize hC : c_ref09_Columns_6 = C6
  simp [k2, hx.len]
  intro b10 hb10
  have sra := fun R => sr_all (R := R) (cs' := [I s.length, .nils]) (hset_same h1 b10 [I 0, .nils]) (n := 2) rfl rfl rfl
  simp [sra]
  have h6 : (hset h1 b10 [I s.length, .nils]) b6 = some [I 0, .nils] := (Kp.refl h1).new hb10 _ _ _ g6
  have h4 : (hset h1 b10 [I s.length, .nils]) b4 = some [I n, v] := (Kp.refl h1).new hb10 _ _ _ g4
  have hk1 : Kp h (hset h1 b10 [I s.length, .nils]) := hk.new hb10 _
  have gs := GrS.start hk1 (hk.no hb10) (hset_same h1 b10 [I s.length, .nils])
  have h610 : b6 ≠ b10 := fun he => by rw [he, hb10] at g6; cases g6
  have h410 : b4 ≠ b10 := fun he => by rw [he, hb10] at g4; cases g4
  clear sra st0 bad l6 l40 l41 l4 l3 hb10
  generalize hset h1 b10 [I s.length, .nils] = g at *
  subst hC
  unfold c_ref09_Columns_6
  generalize hC : c_ref09_Columns_7 = C7
  simp
  refine awp_for L.length (fun k fr' h' => (∃ w, GrS h g h' b10 (I s.length) w k ((colM (L.take k) s).map frow)) ∧ fr' 11 = I k) ⟨⟨.nils, by simpa [colM] using gs⟩, by simp⟩ ?_
  intro k fr2 h2 hkn hk0 ⟨⟨w, gk⟩, k11⟩
  have m2 := hk0 2 (by decide)
  have m4 := hk0 4 (by decide)
  have m6 := hk0 6 (by decide)
  have m10 := hk0 10 (by decide)
  simp [k2, k4, k6] at m2 m4 m6 m10
  clear hk0
  by_cases hlt : k < L.length
  · have u1 : IntKind.i64.wrap ((k : Int) + 1) = k + 1 := w64 _ (by omega)
    obtain ⟨pa, row, hpa, hpl, hrow⟩ := hv.rd hlt
    have l7 := lq_snd gk.ld
    have h4' : h2 b4 = some [I n, v] := gk.1.rd (by rw [hset_ne _ _ h410]; exact h4)
    have l41 := lq_snd h4'
    have hrl := hM.len hlt
    have hml : colM (L.take (k + 1)) s = colM (L.take k) s ++ [s.map fun x => (L.getD k []).getD x.toNat 0] := by
      rw [take_getD (d := []) hlt, colM, List.map_append, List.map_singleton]; rfl
    rw [hml, List.map_append]
    have hpk := s_Pick hrow hx (by omega) (fun x hx => by have := hin x hx; omega)
    have e : [s.map fun x => (L.getD k []).getD x.toNat 0].map frow = [AV.fs s.length (ints (s.map fun x => (L.getD k []).getD x.toNat 0))] := by rw [List.map_singleton, frow, List.length_map]
    rw [e]
    generalize ints (s.map fun x => (L.getD k []).getD x.toNat 0) = y at *
    generalize (colM (L.take k) s).map frow = cs at *
    simp [m2, m4, m10, k11, hv.len, hlt, hpa, hpl, l7, l41]
    refine hpk.call ?_
    simp
    intro b hb
    refine gk.app hb (by omega) fun v' h3 hg hc1 ho g3 => ?_
    have st := fun R => sr_one (R := R) (v := v') (k := 1) hg hc1 ho (by simp)
    simp [st, m10, k11, u1, hlt]
    exact ⟨v', g3⟩
  · have : k = L.length := by omega
    subst this
    rw [List.take_length] at gk
    have l7 := lq_both gk.ld
    have h6' : h2 b6 = some [I 0, .nils] := gk.1.rd (by rw [hset_ne _ _ h610]; exact h6)
    have h4' : h2 b4 = some [I n, v] := gk.1.rd (by rw [hset_ne _ _ h410]; exact h4)
    have l41 := lq_snd h4'
    have hone := gk.1.one
    have st := fun R => sr_all (R := R) (cs' := [I s.length, w]) h6' (n := 2) rfl rfl (by show (one (I s.length) && (one w && true)) = true; rw [hone]; rfl)
    have l6 := lq_both (hset_same h2 b6 [I s.length, w])
    simp [m4, k11, l41, hv.len]
    subst hC
    simp [m6, m10, l7, st, l6]
    have own6 : Own 1 (hset (hset g b10 [I s.length, w]) b6 [I s.length, w]) (hset h2 b6 [I s.length, w]) w L.length ((colM L s).map frow) :=
      gk.1.put (by rw [hset_ne _ _ h610]; exact h6) _
    have fz := own6.frz (G := h) ((gk.2.1.set gk.2.2 _).set n6 _)
    refine RetP.tup fz.1 rfl (frz2 (.agg _ _ rfl (frz2 (.id _) ?_)) (.id _))
    have := fz.2
    rw [gml, show (colM L s).length = L.length by simp [colM]]; exact this

set_option maxHeartbeats 2000000 in
theorem s_Columns {p m : Int} {mv v sv : AV} {mo : List Int} (hmv : IL mv mo) (hml : mo.length < 4611686018427387904) {c : Int} {L : List (List Int)} (hv : ML v L) (hs : MSm L) {s : List Int} (hx : IL sv s) (hxl : s.length < 4611686018427387904) :
    Pure prog n_matrix_Columns [.agg [I p, I m, mv], .agg [I c, v], sv] (colR p m mo c L s) := by
  classical
  refine pure_of cf_matrix_Columns rfl fun h => ?_
  have hone := hmv.one
  have hone2 := hv.one
  unfold c_matrix_Columns_0 c_matrix_Columns_1
  generalize hC : c_matrix_Columns_2 = C2
  simp [hone, hone2]
  intro b3 hb3 b4 hb4 b6 hb6
  obtain ⟨g3, g4, g6, hk, n6⟩ := three_boxes (zs := [I 0, .nils]) hb3 hb4 hb6
  generalize hset (hset (hset h b3 [I p, I m, mv]) b4 [I c, v]) b6 [I 0, .nils] = G at *
  obtain ⟨_, _, _, l3⟩ := ld3_at g3
  have l4 := lq_both g4
  simp [l3, l4, hone2]
  intro b hb
  refine (open1 (p := p) (m := m) hmv hml hv hs (hset_same ..)).call ?_
  have hkb : Kp G (hset G b [I c, v]) := (Kp.refl G).new hb _
  have g4 := hkb _ _ g4
  have g6 := hkb _ _ g6
  have hk := hk.trans hkb
  clear hkb hb l3 l4
  generalize hset G b [I c, v] = G at *
  have l40 := lq_fst g4
  have l41 := lq_snd g4
  have st0 := fun R => sr_all (R := R) (cs' := [I 0, .nils]) g6 (n := 2) rfl rfl rfl
  rw [hset_id g6] at st0
  have l6 := lq_both g6
  have bad : ∀ e, colE p m mo c L s = e → e ≠ 0 → RetP h (colR p m mo c L s) (.tup [.agg [I 0, .nils], I e]) G := fun e he h0 => by
    rw [colR, if_neg (by rw [he]; exact h0), he]; exact ⟨_, hk.sub, .id _, rfl⟩
  unfold openR
  by_cases he : openE p m mo [(c, L)] = 0
  case neg =>
    rw [if_neg he]
    have hb := bad _ (by rw [colE, if_pos he]) he
    generalize openE p m mo [(c, L)] = e at *
    simp [he, st0, l6]
    exact hb
  rw [if_pos he]
  have hE2 : colE p m mo c L s = if 256 < s.length then 8 else if ∃ x ∈ s, x < 0 ∨ c ≤ x then 6 else 0 := by rw [colE, if_neg (by simpa using he)]
  obtain ⟨hf, n, rfl, hn, hLn, hM⟩ := openE_one he
  simp
  subst hC
  unfold c_matrix_Columns_2
  generalize hC : c_matrix_Columns_3 = C3
  by_cases hbig : 256 < s.length
  · have hbig' : 256 < (s.length : Int) := by omega
    have hb := bad 8 (by rw [hE2, if_pos hbig]) (by omega)
    simp [hx.len, hbig, hbig', st0, l6]
    exact hb
  rw [if_neg hbig] at hE2
  have hbig' : ¬ 256 < (s.length : Int) := by omega
  simp [hx.len, hbig, hbig']
  subst hC
  unfold c_matrix_Columns_3
  generalize hC : c_matrix_Columns_4 = C4
  simp [hx.len]
  refine awp_for s.length (fun k fr' h' => h' = G ∧ fr' 35 = I k ∧ ∀ x ∈ s.take k, 0 ≤ x ∧ x < n) ⟨rfl, by simp, by simp⟩ ?_
  intro k fr1 h1 hkn hk0 ⟨hh, k9, hin⟩
  subst hh
  have k2 := hk0 2 (by decide)
  have k4 := hk0 4 (by decide)
  have k6 := hk0 6 (by decide)
  have k33 := hk0 33 (by decide)
  have k34 := hk0 34 (by decide)
  simp at k2 k4 k6 k33 k34
  clear hk0
  by_cases hlt : k < s.length
  · have u1 : IntKind.i64.wrap ((k : Int) + 1) = k + 1 := w64 _ (by omega)
    have hia := hx.iadr (i := k) ⟨by omega, by omega⟩
    rw [Int.toNat_natCast] at hia
    have hld := fun h' => ld_ints (h := h') (l := s) (k := k) (by omega)
    have hmem := mem_getD (l := s) (d := 0) hlt
    rw [take_getD (d := 0) hlt]
    have b6 := fun (hb : s.getD k 0 < 0 ∨ (n : Int) ≤ s.getD k 0) => bad 6 (by rw [hE2, if_pos ⟨_, hmem, hb⟩]) (by omega)
    generalize s.getD k 0 = y at *
    by_cases c1 : y < 0
    · simp [k2, k9, k33, k34, hlt, hia, hld, c1, k6, st0, l6]
      exact b6 (.inl c1)
    by_cases c2 : (n : Int) ≤ y
    · simp [k2, k4, k9, k33, k34, hlt, hia, hld, c1, c2, l40, k6, st0, l6]
      exact b6 (.inr c2)
    · simp [k2, k4, k9, k33, k34, hlt, hia, hld, c1, c2, l40, u1]
      intro x hxx
      rcases hxx with hxx | rfl
      · exact hin x hxx
      · omega
  have hks : k = s.length := by omega
  subst hks
  rw [List.take_length] at hin
  have hE3 : colE p m mo n L s = 0 := by
    rw [hE2, if_neg]
    rintro ⟨x, h1, h2⟩
    have := hin x h1; omega
  have hR : colR p m mo n L s = .tup [.agg [I s.length, gml (colM L s)], I 0] := by rw [colR, if_pos hE3]
  rw [hR]
  simp [k34, k9]
  subst hC
  unfold c_matrix_Columns_4
  generalize hC : c_matrix_Columns_5 = C5
  simp [k2, hx.len]
  intro b10 hb10
  have sra := fun R => sr_all (R := R) (cs' := [I s.length, .nils]) (hset_same h1 b10 [I 0, .nils]) (n := 2) rfl rfl rfl
  simp [sra]
  have h6 : (hset h1 b10 [I s.length, .nils]) b6 = some [I 0, .nils] := (Kp.refl h1).new hb10 _ _ _ g6
  have h4 : (hset h1 b10 [I s.length, .nils]) b4 = some [I n, v] := (Kp.refl h1).new hb10 _ _ _ g4
  have hk1 : Kp h (hset h1 b10 [I s.length, .nils]) := hk.new hb10 _
  have gs := GrS.start hk1 (hk.no hb10) (hset_same h1 b10 [I s.length, .nils])
  have h610 : b6 ≠ b10 := fun he => by rw [he, hb10] at g6; cases g6
  have h410 : b4 ≠ b10 := fun he => by rw [he, hb10] at g4; cases g4
  clear sra st0 bad l6 l40 l41 hb10
  generalize hset h1 b10 [I s.length, .nils] = g at *
  have l41 := lq_snd h4
  subst hC
  unfold c_matrix_Columns_5
  generalize hC : c_matrix_Columns_6 = C6
  simp [k4, l41, hv.len]
  refine awp_for L.length (fun k fr' h' => (∃ w, GrS h g h' b10 (I s.length) w k ((colM (L.take k) s).map frow)) ∧ fr' 55 = I k) ⟨⟨.nils, by simpa [colM] using gs⟩, by simp⟩ ?_
  intro k fr2 h2 hkn hk0 ⟨⟨w, gk⟩, k11⟩
  have m2 := hk0 2 (by decide)
  have m6 := hk0 6 (by decide)
  have m12 := hk0 12 (by decide)
  have m53 := hk0 53 (by decide)
  have m54 := hk0 54 (by decide)
  simp [k2, k6] at m2 m6 m12 m53 m54
  clear hk0
  by_cases hlt : k < L.length
  · have u1 : IntKind.i64.wrap ((k : Int) + 1) = k + 1 := w64 _ (by omega)
    obtain ⟨pa, row, hpa, hpl, hrow⟩ := hv.rd hlt
    have l7 := lq_snd gk.ld
    have hrl := hM.len hlt
    have hml : colM (L.take (k + 1)) s = colM (L.take k) s ++ [s.map fun x => (L.getD k []).getD x.toNat 0] := by
      rw [take_getD (d := []) hlt, colM, List.map_append, List.map_singleton]; rfl
    rw [hml, List.map_append]
    have e : [s.map fun x => (L.getD k []).getD x.toNat 0].map frow = [AV.fs s.length (ints (s.map fun x => (L.getD k []).getD x.toNat 0))] := by rw [List.map_singleton, frow, List.length_map]
    rw [e, ← pkK_eq]
    generalize (colM (L.take k) s).map frow = cs at *
    generalize L.getD k [] = rl at *
    have hsl' : (s.length : Int) ≤ 4294967296 := by omega
    unfold c_matrix_ColumnsL1_0 c_matrix_ColumnsL1_1 c_matrix_ColumnsL1_2 c_matrix_ColumnsB3_0 c_matrix_ColumnsB3_1 c_matrix_ColumnsB3_2
    generalize hD : c_matrix_ColumnsB3_3 = D3
    simp [m2, m53, m54, k11, hlt, hpa, hpl, hx.len, hsl']
    intro b15 hb15
    refine awp_for s.length (fun q fr' h' => Kp h2 h' ∧ h' b15 = some (ints (pkK rl s q)) ∧ fr' 64 = I q) ⟨(Kp.refl _).new hb15 _, by rw [hset_same]; rfl, by simp⟩ ?_
    intro q fr3 h3 hqn hk0 ⟨kp3, hb3', k64⟩
    have z2 := hk0 2 (by decide)
    have z6 := hk0 6 (by decide)
    have z12 := hk0 12 (by decide)
    have z14 := hk0 14 (by decide)
    have z15 := hk0 15 (by decide)
    have z55 := hk0 55 (by decide)
    have z62 := hk0 62 (by decide)
    have z63 := hk0 63 (by decide)
    simp [m2, m6, m12, k11] at z2 z6 z12 z14 z15 z55 z62 z63
    clear hk0
    by_cases hltq : q < s.length
    · have u2 : IntKind.i64.wrap ((q : Int) + 1) = q + 1 := w64 _ (by omega)
      have hxq := hin _ (mem_getD (d := 0) hltq)
      have hiw := hx.iadr (i := q) ⟨by omega, by omega⟩
      rw [Int.toNat_natCast] at hiw
      have hlw := fun h' => ld_ints (h := h') (l := s) (k := q) (by omega)
      have hia := hrow.iadr (i := s.getD q 0) (by omega)
      have hla := fun h' => ld_ints (h := h') (l := rl) (k := (s.getD q 0).toNat) (by omega)
      have hst := fun R => sr_ints (R := R) (v := rl.getD (s.getD q 0).toNat 0) hb3' (k := q) (by rw [pkK_len]; exact hltq)
      have hpk : pkK rl s (q + 1) = (pkK rl s q).set q (rl.getD (s.getD q 0).toNat 0) := rfl
      rw [← hpk] at hst
      generalize rl.getD (s.getD q 0).toNat 0 = z at *
      generalize s.getD q 0 = y at *
      simp [z14, z15, z62, z63, k64, hltq, hiw, hlw, hia, hla, hst, u2]
      exact kp3.set hb15 _
    · have hqs : q = s.length := by omega
      subst hqs
      simp [z63, k64]
      subst hD
      simp
      refine Fz_one z15 hb3' hb15 kp3 (by rw [ints_length, pkK_len]; omega) ?_
      simp [z12, l7]
      intro b hb
      refine gk.app hb (by omega) fun v' h3 hg hc1 ho g3 => ?_
      have st := fun R => sr_one (R := R) (v := v') (k := 1) hg hc1 ho (by simp)
      simp [st, z12, z55, u1, hlt]
      exact ⟨v', g3⟩
  · have : k = L.length := by omega
    subst this
    rw [List.take_length] at gk
    have l7 := lq_both gk.ld
    have h6' : h2 b6 = some [I 0, .nils] := gk.1.rd (by rw [hset_ne _ _ h610]; exact h6)
    have hone := gk.1.one
    have st := fun R => sr_all (R := R) (cs' := [I s.length, w]) h6' (n := 2) rfl rfl (by show (one (I s.length) && (one w && true)) = true; rw [hone]; rfl)
    have l6 := lq_both (hset_same h2 b6 [I s.length, w])
    simp [m54, k11]
    subst hC
    simp [m6, m12, l7, st, l6]
    have own6 : Own 1 (hset (hset g b10 [I s.length, w]) b6 [I s.length, w]) (hset h2 b6 [I s.length, w]) w L.length ((colM L s).map frow) :=
      gk.1.put (by rw [hset_ne _ _ h610]; exact h6) _
    have fz := own6.frz (G := h) ((gk.2.1.set gk.2.2 _).set n6 _)
    refine RetP.tup fz.1 rfl (frz2 (.agg _ _ rfl (frz2 (.id _) ?_)) (.id _))
    have := fz.2
    rw [gml, show (colM L s).length = L.length by simp [colM]]; exact this
end Go.AM.Ytmihmgnjnedfcab
end

section
/- The law MatrixPicks. -/
set_option maxRecDepth 100000
set_option linter.unusedSimpArgs false
set_option linter.unusedVariables false
namespace Go.AM.Ytmihmgnjnedfcab
open Go Go.AM
attribute [local simp ↓] awp_seq awp_reg awp_skip awp_cond' awp_block awp_exit awp_ret awp_fz thenW_normal thenW_exit thenW_ret inBlk_normal inBlk_exit inBlk_ret aops_cons' contA_ap aops_nil e_mv e_guard' e_pick' e_ld' e_app e_cpy e_st' e_call callW_f updO_some updO_none e_bin' e_isnil' e_fadr' e_iadr' e_iarr' e_len' e_build' e_mkf' e_nc' e_not' e_neg' e_cvt' e_slc' e_fld' e_ext' e_min' e_eqs' e_new e_box e_mkl e_mks
attribute [local simp] upd_apply ev_t ev_k ev_f binA_add binA_sub binA_mul binA_quo binA_rem binA_eql binA_neq binA_lss binA_leq binA_gtr binA_geq det mem frame0 keeps_nil iadrA_sl fadrA_ref fadrA_fp ldv_agg ldv_one cells_base hset_same hset_hset lenA_fs lenA_sl lenA_nils zeros_ints ints_length one_base one_nilp one_nils one_ref one_sl one_fp one_fs one_fn gl_one resA resOf bound natOf afill splice AV.cells cells_agg bindR_some condR_true condR_false guardR_tup guardR_true guardR_true' guardR_false guardR_false' allocW_some pickA_true pickA_false
open Go.FM

/-- A matrix's rows that a function returned. -/
structure MV1 (mv : AV) (M : List (List Int)) : Prop where
  ml : ML mv M
  sm : MSm M
  cells : mv.cells = [mv]
  one : one mv = true
theorem MV1.nils : MV1 .nils [] := ⟨ML_gml [], ⟨by decide, fun r hr => by cases hr⟩, rfl, rfl⟩
theorem MV1.gml {M : List (List Int)} (h : MSm M) : MV1 (gml M) M := ⟨ML_gml M, h, by unfold AM.Ytmihmgnjnedfcab.gml gl; split <;> rfl, by unfold AM.Ytmihmgnjnedfcab.gml gl; split <;> rfl⟩
theorem MV1.fs {M : List (List Int)} (h : MSm M) : MV1 (.fs M.length (M.map frow)) M := ⟨ML_fs M, h, rfl, rfl⟩
theorem MV1.same {x y : AV} {M : List (List Int)} (a : MV1 x M) (b : MV1 y M) (c : Int) : Pure prog n_ref09_Same [.agg [I c, x], .agg [I c, y]] (B true) := by
  have := s_Same (c := c) (d := c) a.ml b.ml a.sm.1 (fun i hi => a.sm.2 _ (mem_getD hi))
  rwa [decide_eq_true ⟨rfl, rfl⟩] at this
theorem MV1.st {x : AV} {M : List (List Int)} (a : MV1 x M) {h : Hp} {b : Nat} {c : Int} {R : AV → Hp → Prop} : stR (.ref b 0) (.agg [I c, x]) 2 (hset h b [I 0, .nils]) R = R (.tup []) (hset h b [I c, x]) := st_box2 a.cells a.one
theorem MV1.sr {x : AV} {M : List (List Int)} (a : MV1 x M) {h : Hp} {b : Nat} {c : Int} {y z : AV} (hb : h b = some [y, z]) (R : AV → Hp → Prop) : stR (.ref b 0) (.agg [I c, x]) 2 h R = R (.tup []) (hset h b [I c, x]) :=
  sr_all hb (n := 2) rfl rfl (by show (AM.one (I c) && (AM.one x && true)) = true; rw [a.one]; rfl)

theorem colR_form (p m : Int) (mo : List Int) (c : Int) {L : List (List Int)} {s : List Int} (hL : L.length < 4611686018427387904) (hs : s.length < 4611686018427387904) : ∃ cc mv M e, colR p m mo c L s = .tup [.agg [I cc, mv], I e] ∧ MV1 mv M := by
  classical
  unfold colR
  split
  · refine ⟨_, _, colM L s, _, rfl, MV1.gml ⟨by simpa [colM] using hL, fun row hr => ?_⟩⟩
    obtain ⟨r, _, rfl⟩ := List.mem_map.1 hr
    rw [List.length_map]; exact hs
  · exact ⟨_, _, [], _, rfl, MV1.nils⟩
theorem vecR_form (p m : Int) (mo : List Int) (c : Int) (L : List (List Int)) (x : List Int) (hc : c ≤ 260) : ∃ xv l e, vecR p m mo c L x = .tup [xv, I e] ∧ IL xv l ∧ l.length < 4611686018427387904 := by
  unfold vecR
  split
  · have hl := combK_len (mkD p m mo) x L c.toNat x.length
    refine ⟨_, combK (mkD p m mo) x L c.toNat x.length, _, rfl, ?_, by omega⟩
    have := IL.fs (combK (mkD p m mo) x L c.toNat x.length)
    rwa [hl] at this
  · exact ⟨_, [], _, rfl, IL.nils, by decide⟩
theorem unitL_sm {n : Nat} (hn : n ≤ 65536) : MSm (unitL n) := ⟨by rw [unitL_len]; omega, fun row hr => by
  obtain ⟨i, hi, rfl⟩ := List.mem_iff_getElem.1 hr
  rw [unitL_len] at hi
  have := unitL_row hi
  have e : (unitL n)[i] = (unitL n).getD i [] := by simp [List.getD, hi, unitL_len]
  rw [e, this]; simp; omega⟩
theorem id_form (n : Int) : ∃ cc a b e M, Pure prog n_matrix_Identity [I n] (.tup [.agg [I cc, a], I e]) ∧ Pure prog n_ref09_Identity [I n] (.tup [.agg [I cc, b], I e]) ∧ MV1 a M ∧ MV1 b M := by
  have h1 := s_Identity n
  have h2 := s_refIdentity n
  by_cases hc : n < 0 ∨ 256 < n
  · rw [if_pos hc] at h1 h2
    exact ⟨_, _, _, _, [], h1, h2, MV1.nils, MV1.nils⟩
  · rw [if_neg hc] at h1 h2
    have hs := unitL_sm (n := n.toNat) (by omega)
    refine ⟨_, _, _, _, unitL n.toNat, h1, h2, ?_, MV1.gml hs⟩
    have := MV1.fs hs
    rwa [unitL_len] at this

set_option maxHeartbeats 4000000 in
theorem s_MatrixPicks {p m : Int} {mv v bv : AV} {mo : List Int} (hmv : IL mv mo) (hml : mo.length < 4611686018427387904) {c : Int} {L : List (List Int)} (hv : ML v L) (hs : MSm L) {b : List Int} (hb : IL bv b) (hbl : b.length < 4611686018427387904) :
    Pure prog n_law09_MatrixPicks [.agg [I p, I m, mv], .agg [I c, v], bv] (B true) := by
  refine pure_of cf_law09_MatrixPicks rfl fun h => ?_
  have hone := hmv.one
  have hone2 := hv.one
  unfold c_law09_MatrixPicks_0 c_law09_MatrixPicks_1
  generalize hC : c_law09_MatrixPicks_2 = C2
  simp [hone, hone2]
  intro b3 hb3 b4 hb4
  obtain ⟨g3, g4, hk⟩ := two_boxes (ys := [I c, v]) hb3 hb4
  generalize hset (hset h b3 [I p, I m, mv]) b4 [I c, v] = g at *
  obtain ⟨_, _, _, l3⟩ := ld3_at g3
  have l4 := lq_both g4
  refine s_awake.call ?_
  simp [l4]
  refine (s_Few hv hs.1 (n := 300) (by omega)).call ?_
  by_cases hf : fewB c L 300 = true
  case neg =>
    have : fewB c L 300 = false := by simpa using hf
    rw [this]
    simp
    refine s_awake.call ?_
    simp
    exact ⟨_, hk.sub, .id _, rfl⟩
  rw [hf]
  by_cases h3 : (300 : Int) < b.length
  · simp [hb.len, h3]
    refine s_awake.call ?_
    simp
    exact ⟨_, hk.sub, .id _, rfl⟩
  simp [hb.len, h3]
  refine awp_gen [2, 3, 4] fun fr1 hsl => ?_
  have p2 := hsl 2 (by simp)
  have p3 := hsl 3 (by simp)
  have p4 := hsl 4 (by simp)
  simp at p2 p3 p4
  clear hsl
  have q1 := s_Columns (p := p) (m := m) hmv hml (c := c) hv hs hb hbl
  have q2 := s_refColumns (p := p) (m := m) hmv hml (c := c) hv hs hb hbl
  have q3 := s_Vec (p := p) (m := m) hmv hml (c := c) hv hs hb hbl
  have q4 := s_refVec (p := p) (m := m) hmv hml (c := c) hv hs hb hbl
  obtain ⟨cc, xv, M, e, r1, mx⟩ := colR_form p m mo c hs.1 hbl
  obtain ⟨yv, yl, e2, r2, hy, hyl⟩ := vecR_form p m mo c L b (fewB_le hf).1
  rw [r1] at q1 q2
  rw [r2] at q3 q4
  have hy1 := hy.one
  have d1 := mx.same mx cc
  have d2 := s_SameInts hy hy hyl
  rw [decide_eq_true rfl] at d2
  have st7 := fun h b R => mx.st (h := h) (b := b) (c := cc) (R := R)
  have hxc := mx.cells
  have hxo := mx.one
  subst hC
  unfold c_law09_MatrixPicks_2
  generalize hC : c_law09_MatrixPicks_3 = C3
  simp [p2, p3, p4, l3, l4]
  refine q1.call ?_
  simp [st7]
  intro b7 hb7
  have kk := (Kp.refl g).new hb7 [I cc, xv]
  have g7 := hset_same g b7 [I cc, xv]
  have n7 : g b7 = none := hb7
  have n7 := hk.no n7
  have g3 := kk _ _ g3
  have g4 := kk _ _ g4
  have hk := hk.trans kk
  clear kk hb7 l3 l4
  generalize hset g b7 [I cc, xv] = G at *
  obtain ⟨_, _, _, l3⟩ := ld3_at g3
  have l4 := lq_both g4
  subst hC
  unfold c_law09_MatrixPicks_3
  generalize hC : c_law09_MatrixPicks_4 = C4
  simp [p2, p3, p4, l3, l4]
  refine q2.call ?_
  simp [st7]
  intro b9 hb9
  have kk := (Kp.refl G).new hb9 [I cc, xv]
  have g9 := hset_same G b9 [I cc, xv]
  have n9 : G b9 = none := hb9
  have h79 : b7 ≠ b9 := fun he => by rw [he, n9] at g7; cases g7
  have n9 := hk.no n9
  have g3 := kk _ _ g3
  have g4 := kk _ _ g4
  have g7 := kk _ _ g7
  have hk := hk.trans kk
  clear kk hb9 l3 l4
  generalize hset G b9 [I cc, xv] = H at *
  obtain ⟨_, _, _, l3⟩ := ld3_at g3
  have l4 := lq_both g4
  have l7 := lq_both g7
  have l9 := lq_both g9
  subst hC
  unfold c_law09_MatrixPicks_4
  generalize hC : c_law09_MatrixPicks_5 = C5
  simp [p2, p3, p4, l3, l4]
  refine q3.call ?_
  simp
  subst hC
  unfold c_law09_MatrixPicks_5
  generalize hC : c_law09_MatrixPicks_6 = C6
  simp [p2, p3, p4, l3, l4]
  refine q4.call ?_
  simp
  subst hC
  unfold c_law09_MatrixPicks_6
  generalize hC : c_law09_MatrixPicks_7 = C7
  simp [l7, l9]
  refine d1.call ?_
  simp
  refine d2.call ?_
  simp
  refine awp_gen [2, 7, 9] fun fr2 hsl => ?_
  have p2' := hsl 2 (by simp)
  have p7 := hsl 7 (by simp)
  have p9 := hsl 9 (by simp)
  simp [p2] at p2' p7 p9
  clear hsl
  subst hC
  unfold c_law09_MatrixPicks_7
  generalize hC : c_law09_MatrixPicks_8 = C8
  by_cases h0 : b.length = 0
  · simp [p2', hb.len, h0]
    exact ⟨_, hk.sub, .id _, rfl⟩
  have h0' : ¬ b = [] := fun e => h0 (by rw [e]; rfl)
  simp [p2', hb.len, h0, h0']
  have hib := hb.iadr (i := 0) ⟨by omega, by omega⟩
  have hldb := fun h' => ld_ints (h := h') (l := b) (k := 0) (by omega)
  have e0 : (0 : Int).toNat = 0 := rfl
  rw [e0] at hib
  simp only [List.drop_zero] at hib hldb
  generalize b.getD 0 0 = z at *
  obtain ⟨c5, a5, b5, e5, M5, i1, i2, ma, mb⟩ := id_form z
  subst hC
  unfold c_law09_MatrixPicks_8
  generalize hC : c_law09_MatrixPicks_9 = C9
  have s7 := ma.sr (c := c5) g7
  simp [p2', hib, hldb]
  refine i1.call ?_
  simp [p7, s7]
  have g7' := hset_same H b7 [I c5, a5]
  have g9' : (hset H b7 [I c5, a5]) b9 = some [I cc, xv] := by rw [hset_ne _ _ (Ne.symm h79)]; exact g9
  have hk' : Kp h (hset H b7 [I c5, a5]) := hk.set n7 _
  clear l3 l4 l7 l9 g3 g4 hk
  generalize hset H b7 [I c5, a5] = H2 at *
  have s9 := mb.sr (c := c5) g9'
  subst hC
  unfold c_law09_MatrixPicks_9
  generalize hC : c_law09_MatrixPicks_10 = C10
  simp [p2', hib, hldb]
  refine i2.call ?_
  simp [p9, s9]
  have g9'' := hset_same H2 b9 [I c5, b5]
  have g7'' : (hset H2 b9 [I c5, b5]) b7 = some [I c5, a5] := by rw [hset_ne _ _ h79]; exact g7'
  have hk'' : Kp h (hset H2 b9 [I c5, b5]) := hk'.set n9 _
  generalize hset H2 b9 [I c5, b5] = H3 at *
  have l7 := lq_both g7''
  have l9 := lq_both g9''
  have d3 := ma.same mb c5
  subst hC
  simp [p7, p9, l7, l9]
  refine d3.call ?_
  simp
  exact ⟨_, hk''.sub, .id _, rfl⟩
end Go.AM.Ytmihmgnjnedfcab
end

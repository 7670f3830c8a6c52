import Derived.Test.YtmihmgnjnedfcabBH
import Derived.Test.YtmihmgnjnedfcabBB

section
/- Parts that the laws of chapter 9 share. -/
set_option maxRecDepth 100000
set_option linter.unusedSimpArgs false
set_option linter.unusedVariables false
namespace Go.AM.Ytmihmgnjnedfcab
open Go Go.AM
attribute [local simp ↓] awp_seq awp_reg awp_skip awp_cond' awp_block awp_exit awp_ret awp_fz thenW_normal thenW_exit thenW_ret inBlk_normal inBlk_exit inBlk_ret aops_cons' contA_ap aops_nil e_mv e_guard' e_pick' e_ld' e_app e_cpy e_st' e_call callW_f updO_some updO_none e_bin' e_isnil' e_fadr' e_iadr' e_iarr' e_len' e_build' e_mkf' e_nc' e_not' e_neg' e_cvt' e_slc' e_fld' e_ext' e_min' e_eqs' e_new e_box e_mkl e_mks
attribute [local simp] upd_apply ev_t ev_k ev_f binA_add binA_sub binA_mul binA_quo binA_rem binA_eql binA_neq binA_lss binA_leq binA_gtr binA_geq det mem frame0 keeps_nil iadrA_sl fadrA_ref fadrA_fp ldv_agg ldv_one cells_base hset_same hset_hset lenA_fs lenA_sl lenA_nils zeros_ints ints_length one_base one_nilp one_nils one_ref one_sl one_fp one_fs one_fn gl_one resA resOf bound natOf afill splice AV.cells cells_agg bindR_some condR_true condR_false guardR_tup guardR_true guardR_true' guardR_false guardR_false' allocW_some pickA_true pickA_false
open Go.FM

theorem canR_ok {p m : Int} {mo : List Int} {n : Nat} {L : List (List Int)} (he : openE p m mo [((n : Int), L)] = 0) (hM : Mat (mkD p m mo) n L) (r : Fd (mkD p m mo)) : ∃ CV PV, canR p m mo n L = .tup [.agg [I n, CV], PV, I 0] ∧ ML CV (canL (mkD p m mo) L n) ∧ IL PV (pivL (mkD p m mo) L n) ∧ CV.cells = [CV] ∧ one CV = true ∧ one PV = true := by
  have hcl := canL_len0 r hM n
  refine ⟨_, _, by unfold canR; rw [if_pos he, Int.toNat_natCast], ?_, gil_IL _, rfl, rfl, (gil_IL _).one⟩
  rw [← hcl]; exact ML_fs _
theorem canR_bad {p m : Int} {mo : List Int} {c : Int} {L : List (List Int)} (he : openE p m mo [(c, L)] ≠ 0) : canR p m mo c L = .tup [.agg [I 0, .nils], .nils, I (openE p m mo [(c, L)])] := by
  unfold canR; rw [if_neg he]
theorem st_box2 {h : Hp} {b : Nat} {n : Int} {cv : AV} {R : AV → Hp → Prop} (h1 : cv.cells = [cv]) (h2 : one cv = true) : stR (.ref b 0) (.agg [I n, cv]) 2 (hset h b [I 0, .nils]) R = R (.tup []) (hset h b [I n, cv]) :=
  st_box (cs := [I 0, .nils]) (cs' := [I n, cv]) rfl rfl (by show (one (I n) && (one cv && true)) = true; rw [h2]; rfl)
/-- A matrix over the field has no error. -/
theorem openE_mat {p m : Int} {mo : List Int} {n : Nat} {L : List (List Int)} (hf : FieldP p m mo) (hn : n ≤ 256) (hl : L.length ≤ 256) (hM : Mat (mkD p m mo) n L) : openE p m mo [((n : Int), L)] = 0 := by
  unfold openE
  rw [if_pos hf]
  have : chkE (mkD p m mo) n L = 0 := by
    unfold chkE
    rw [if_neg (by omega), if_neg (fun hh => hh fun row hr => by rw [(hM row hr).1]), if_pos fun row hr x hx => (hM row hr).2 x hx]
  simp only [chkAll]
  rw [if_neg (by simpa using this)]
theorem mat_sm {D : Ds} {n : Nat} {L : List (List Int)} (hn : n ≤ 256) (hl : L.length ≤ 256) (hM : Mat D n L) : MSm L := ⟨by omega, fun row hr => by rw [(hM row hr).1]; omega⟩
theorem pv_get {D : Ds} {L : List (List Int)} {n i : Nat} (hi : i < (elim D L n).pv.length) : (pivL D L n).getD i 0 = (pvF (elim D L n).pv i : Nat) := map_getD' Int.ofNat (elim D L n).pv i 0 0 hi
/-- What a canonical matrix is. -/
structure Rd (D : Ds) (CL : List (List Int)) (rk n : Nat) (pv : List Nat) : Prop where
  len : CL.length = rk
  pvl : pv.length = rk
  le : rk ≤ n
  mat : Mat D n CL
  lt : ∀ i, i < rk → pvF pv i < n
  mono : ∀ i j, i < j → j < rk → pvF pv i < pvF pv j
  unit : ∀ i j, i < rk → j < rk → (CL.getD i []).getD (pvF pv j) 0 = if i = j then 1 else 0
  zero : ∀ i j, i < rk → j < pvF pv i → (CL.getD i []).getD j 0 = 0
theorem rd_of {D : Ds} (r : Fd D) {n : Nat} {L : List (List Int)} (hM : Mat D n L) : Rd D (canL D L n) (rkN D L n) n (elim D L n).pv :=
  ⟨canL_len0 r hM n, rfl, elim_le2 r hM n, canL_mat0 r hM n, fun i hi => can_lt (F := ⟨D, r⟩) hM n hi, fun i j h1 h2 => can_mono (F := ⟨D, r⟩) hM n h1 h2,
   fun i j h1 h2 => can_unit (F := ⟨D, r⟩) hM n h1 h2, fun i j h1 h2 => can_zero (F := ⟨D, r⟩) hM n h1 h2⟩
end Go.AM.Ytmihmgnjnedfcab
end

section
/- Codes of the program, as the conversion gives them. -/
set_option maxRecDepth 100000
namespace Go.AM.Ytmihmgnjnedfcab
open Go Go.AM
-- law09_MatrixReduced
abbrev c_law09_MatrixReducedB3_2 : SC := (.cond (.t 138) (.seq (.reg [o 4 (.mv (kb false))]) .ret) .skip)
abbrev c_law09_MatrixReducedB3_1 : SC := .seq (.reg [o 117 (.mv (.t 10)), o 118 (.mv (.t 8)), o 119 (.bin .eql (.t 117) (.t 118)), o 120 (.mv (.t 119)), og 120 true 0 121 (.mv (.t 11)), og 120 true 0 122 (.mv (.t 9)), og 120 true 0 123 (.iadr (.t 121) (.t 122) 1), og 120 true 0 124 (.ld (.t 123) 1 false), og 120 true 0 125 (.bin .neq (.t 124) (ki 1)), o 126 (.pick (.t 120) (.t 125) (kb false)), o 127 (.mv (.t 126)), og 127 false 0 128 (.mv (.t 10)), og 127 false 0 129 (.mv (.t 8)), og 127 false 0 130 (.bin .neq (.t 128) (.t 129)), og 127 false 0 131 (.mv (.t 130)), og 131 true 0 132 (.mv (.t 11)), og 131 true 0 133 (.mv (.t 9)), og 131 true 0 134 (.iadr (.t 132) (.t 133) 1), og 131 true 0 135 (.ld (.t 134) 1 false), og 131 true 0 136 (.bin .neq (.t 135) (ki 0)), og 127 false 0 137 (.pick (.t 131) (.t 136) (kb false)), o 138 (.pick (.t 127) (kb true) (.t 137))]) c_law09_MatrixReducedB3_2
abbrev c_law09_MatrixReducedB3_0 : SC := .seq (.reg [o 114 (.mv (.t 112)), o 115 (.iadr (.t 110) (.t 112) 1), o 116 (.ld (.t 115) 1 false), o 10 (.mv (.t 114)), o 11 (.mv (.t 116))]) c_law09_MatrixReducedB3_1
abbrev c_law09_MatrixReducedL1_3 : SC := (.reg [o 139 (.bin .add (.t 112) (ki 1)), o 112 (.mv (.t 139))])
abbrev c_law09_MatrixReducedL1_2 : SC := .seq (.block 3 c_law09_MatrixReducedB3_0) c_law09_MatrixReducedL1_3
abbrev c_law09_MatrixReducedL1_1 : SC := .seq (.cond (.t 113) .skip (.exit 2)) c_law09_MatrixReducedL1_2
abbrev c_law09_MatrixReducedL1_0 : SC := .seq (.reg [o 113 (.bin .lss (.t 112) (.t 111))]) c_law09_MatrixReducedL1_1
abbrev c_law09_MatrixReducedB5_2 : SC := (.cond (.t 153) (.seq (.reg [o 4 (.mv (kb false))]) .ret) .skip)
abbrev c_law09_MatrixReducedB5_1 : SC := .seq (.reg [o 152 (.mv (.t 13)), o 153 (.bin .neq (.t 152) (ki 0))]) c_law09_MatrixReducedB5_2
abbrev c_law09_MatrixReducedB5_0 : SC := .seq (.reg [o 150 (.iadr (.t 146) (.t 148) 1), o 151 (.ld (.t 150) 1 false), o 13 (.mv (.t 151))]) c_law09_MatrixReducedB5_1
abbrev c_law09_MatrixReducedL2_3 : SC := (.reg [o 154 (.bin .add (.t 148) (ki 1)), o 148 (.mv (.t 154))])
abbrev c_law09_MatrixReducedL2_2 : SC := .seq (.block 5 c_law09_MatrixReducedB5_0) c_law09_MatrixReducedL2_3
abbrev c_law09_MatrixReducedL2_1 : SC := .seq (.cond (.t 149) .skip (.exit 4)) c_law09_MatrixReducedL2_2
abbrev c_law09_MatrixReducedL2_0 : SC := .seq (.reg [o 149 (.bin .lss (.t 148) (.t 147))]) c_law09_MatrixReducedL2_1
abbrev c_law09_MatrixReducedB1_4 : SC := (.block 4 (.loop c_law09_MatrixReducedL2_0))
abbrev c_law09_MatrixReducedB1_3 : SC := .seq (.reg [o 140 (.fadr (.t 5) 1), o 141 (.ld (.t 140) 1 false), o 142 (.mv (.t 8)), o 143 (.iadr (.t 141) (.t 142) 1), o 144 (.ld (.t 143) 1 false), o 145 (.mv (.t 9)), o 146 (.slc (.t 144) none (some (.t 145)) none 1), o 147 (.len (.t 146)), o 148 (.mv (ki 0))]) c_law09_MatrixReducedB1_4
abbrev c_law09_MatrixReducedB1_2 : SC := .seq (.seq (.reg [o 109 (.fadr (.t 5) 1), o 110 (.ld (.t 109) 1 false), o 111 (.len (.t 110)), o 112 (.mv (ki 0))]) (.block 2 (.loop c_law09_MatrixReducedL1_0))) c_law09_MatrixReducedB1_3
abbrev c_law09_MatrixReducedB1_1 : SC := .seq (.seq (.reg [o 88 (.mv (.t 9)), o 89 (.bin .lss (.t 88) (ki 0)), o 90 (.mv (.t 89)), og 90 false 0 91 (.mv (.t 9)), og 90 false 0 92 (.fadr (.t 5) 0), og 90 false 0 93 (.ld (.t 92) 1 false), og 90 false 0 94 (.bin .geq (.t 91) (.t 93)), o 95 (.pick (.t 90) (kb true) (.t 94)), o 96 (.mv (.t 95)), og 96 false 0 97 (.mv (.t 8)), og 96 false 0 98 (.bin .gtr (.t 97) (ki 0)), og 96 false 0 99 (.mv (.t 98)), og 99 true 0 100 (.mv (.t 6)), og 99 true 0 101 (.mv (.t 8)), og 99 true 0 102 (.bin .sub (.t 101) (ki 1)), og 99 true 0 103 (.iadr (.t 100) (.t 102) 1), og 99 true 0 104 (.ld (.t 103) 1 false), og 99 true 0 105 (.mv (.t 9)), og 99 true 0 106 (.bin .geq (.t 104) (.t 105)), og 96 false 0 107 (.pick (.t 99) (.t 106) (kb false)), o 108 (.pick (.t 96) (kb true) (.t 107))]) (.cond (.t 108) (.seq (.reg [o 4 (.mv (kb false))]) .ret) .skip)) c_law09_MatrixReducedB1_2
abbrev c_law09_MatrixReducedB1_0 : SC := .seq (.reg [o 85 (.mv (.t 83)), o 86 (.iadr (.t 81) (.t 83) 1), o 87 (.ld (.t 86) 1 false), o 8 (.mv (.t 85)), o 9 (.mv (.t 87))]) c_law09_MatrixReducedB1_1
abbrev c_law09_MatrixReducedL0_3 : SC := (.reg [o 155 (.bin .add (.t 83) (ki 1)), o 83 (.mv (.t 155))])
abbrev c_law09_MatrixReducedL0_2 : SC := .seq (.block 1 c_law09_MatrixReducedB1_0) c_law09_MatrixReducedL0_3
abbrev c_law09_MatrixReducedL0_1 : SC := .seq (.cond (.t 84) .skip (.exit 0)) c_law09_MatrixReducedL0_2
abbrev c_law09_MatrixReducedL0_0 : SC := .seq (.reg [o 84 (.bin .lss (.t 83) (.t 82))]) c_law09_MatrixReducedL0_1
abbrev c_law09_MatrixReducedB7_2 : SC := (.cond (.t 174) (.seq (.reg [o 4 (.mv (kb false))]) .ret) .skip)
abbrev c_law09_MatrixReducedB7_1 : SC := .seq (.reg [o 164 (.mv (.t 15)), o 165 (.mv (.t 6)), o 167 (.fadr (.t 5) 1), o 169 (.fadr (.t 5) 0), o 172 (.mv (.t 15)), o 163 (.ld (.t 2) 3 true), o 168 (.ld (.t 167) 1 false), o 170 (.ld (.t 169) 1 false), om 1 166 (.call (.f n_ref09_Pick) [.t 164, .t 165]), om 1 171 (.call (.f n_ref09_Combine) [.t 163, .t 166, .t 168, .t 170]), om 1 173 (.call (.f n_ref09_SameInts) [.t 171, .t 172]), o 174 (.not (.t 173))]) c_law09_MatrixReducedB7_2
abbrev c_law09_MatrixReducedB7_0 : SC := .seq (.reg [o 161 (.iadr (.t 157) (.t 159) 1), o 162 (.ld (.t 161) 1 false), o 15 (.mv (.t 162))]) c_law09_MatrixReducedB7_1
abbrev c_law09_MatrixReducedL3_3 : SC := (.reg [o 175 (.bin .add (.t 159) (ki 1)), o 159 (.mv (.t 175))])
abbrev c_law09_MatrixReducedL3_2 : SC := .seq (.block 7 c_law09_MatrixReducedB7_0) c_law09_MatrixReducedL3_3
abbrev c_law09_MatrixReducedL3_1 : SC := .seq (.cond (.t 160) .skip (.exit 6)) c_law09_MatrixReducedL3_2
abbrev c_law09_MatrixReducedL3_0 : SC := .seq (.reg [o 160 (.bin .lss (.t 159) (.t 158))]) c_law09_MatrixReducedL3_1
abbrev c_law09_MatrixReduced_8 : SC := .ret
abbrev c_law09_MatrixReduced_7 : SC := .seq (.reg [o 4 (.mv (kb true))]) c_law09_MatrixReduced_8
abbrev c_law09_MatrixReduced_6 : SC := .seq (.seq (.reg [o 156 (.fadr (.t 3) 1), o 157 (.ld (.t 156) 1 false), o 158 (.len (.t 157)), o 159 (.mv (ki 0))]) (.block 6 (.loop c_law09_MatrixReducedL3_0))) c_law09_MatrixReduced_7
abbrev c_law09_MatrixReduced_5 : SC := .seq (.seq (.reg [o 81 (.mv (.t 6)), o 82 (.len (.t 81)), o 83 (.mv (ki 0))]) (.block 0 (.loop c_law09_MatrixReducedL0_0))) c_law09_MatrixReduced_6
abbrev c_law09_MatrixReduced_4 : SC := .seq (.seq (.reg [o 42 (.ld (.t 2) 3 true), o 43 (.ld (.t 3) 2 true), o 44 (.call (.f n_ref09_Check) [.t 42, .t 43]), o 45 (.bin .neq (.t 44) (ki 0)), o 46 (.mv (.t 45)), og 46 false 0 47 (.fadr (.t 5) 0), og 46 false 0 48 (.ld (.t 47) 1 false), og 46 false 0 49 (.fadr (.t 3) 0), og 46 false 0 50 (.ld (.t 49) 1 false), og 46 false 0 51 (.bin .neq (.t 48) (.t 50)), o 52 (.pick (.t 46) (kb true) (.t 51)), o 53 (.mv (.t 52)), og 53 false 0 54 (.fadr (.t 5) 1), og 53 false 0 55 (.ld (.t 54) 1 false), og 53 false 0 56 (.len (.t 55)), og 53 false 0 57 (.mv (.t 6)), og 53 false 0 58 (.len (.t 57)), og 53 false 0 59 (.bin .neq (.t 56) (.t 58)), o 60 (.pick (.t 53) (kb true) (.t 59)), o 61 (.mv (.t 60)), og 61 false 0 62 (.mv (.t 6)), og 61 false 0 63 (.len (.t 62)), og 61 false 0 64 (.fadr (.t 3) 1), og 61 false 0 65 (.ld (.t 64) 1 false), og 61 false 0 66 (.len (.t 65)), og 61 false 0 67 (.bin .gtr (.t 63) (.t 66)), o 68 (.pick (.t 61) (kb true) (.t 67)), o 69 (.mv (.t 68)), og 69 false 0 70 (.ld (.t 2) 3 true), og 69 false 0 71 (.ld (.t 5) 2 true), og 69 false 0 72 (.call (.f n_matrix_Check) [.t 70, .t 71]), og 69 false 0 73 (.bin .neq (.t 72) (ki 0)), o 74 (.pick (.t 69) (kb true) (.t 73)), o 75 (.mv (.t 74)), og 75 false 0 76 (.ld (.t 2) 3 true), og 75 false 0 77 (.ld (.t 5) 2 true), og 75 false 0 78 (.call (.f n_ref09_Check) [.t 76, .t 77]), og 75 false 0 79 (.bin .neq (.t 78) (ki 0)), o 80 (.pick (.t 75) (kb true) (.t 79))]) (.cond (.t 80) (.seq (.reg [o 4 (.mv (kb false))]) .ret) .skip)) c_law09_MatrixReduced_5
abbrev c_law09_MatrixReduced_3 : SC := .seq (.seq (.reg [o 31 (.mv (.t 7)), o 32 (.bin .neq (.t 31) (ki 0))]) (.cond (.t 32) (.seq (.reg [o 33 (.fadr (.t 5) 1), o 34 (.ld (.t 33) 1 false), o 35 (.len (.t 34)), o 36 (.bin .eql (.t 35) (ki 0)), o 37 (.mv (.t 36)), og 37 true 0 38 (.mv (.t 6)), og 37 true 0 39 (.len (.t 38)), og 37 true 0 40 (.bin .eql (.t 39) (ki 0)), o 41 (.pick (.t 37) (.t 40) (kb false)), o 4 (.mv (.t 41))]) .ret) .skip)) c_law09_MatrixReduced_4
abbrev c_law09_MatrixReduced_2 : SC := .seq (.reg [o 25 (.ld (.t 2) 3 true), o 26 (.ld (.t 3) 2 true), o 27 (.call (.f n_matrix_Canonical) [.t 25, .t 26]), o 24 (.mv (.t 27)), o 28 (.ext (.t 24) 0), o 29 (.ext (.t 24) 1), o 30 (.ext (.t 24) 2), o 5 (.new [I 0, .nils]), os (.st (.t 5) (.t 28) 2), o 6 (.mv (.t 29)), o 7 (.mv (.t 30))]) c_law09_MatrixReduced_3
abbrev c_law09_MatrixReduced_1 : SC := .seq (.seq (.reg [o 16 (.call (.f n_law09_awake) []), o 17 (.not (.t 16)), o 18 (.mv (.t 17)), og 18 false 0 19 (.ld (.t 3) 2 true), og 18 false 0 20 (.call (.f n_ref09_Few) [.t 19, ki 300]), og 18 false 0 21 (.not (.t 20)), o 22 (.pick (.t 18) (kb true) (.t 21))]) (.cond (.t 22) (.seq (.reg [o 23 (.call (.f n_law09_awake) []), o 4 (.mv (.t 23))]) .ret) .skip)) c_law09_MatrixReduced_2
abbrev c_law09_MatrixReduced_0 : SC := .seq (.reg [o 2 (.box (.t 0)), o 3 (.box (.t 1)), o 4 (.mv (kb false))]) c_law09_MatrixReduced_1
theorem cf_law09_MatrixReduced : cfun Go.Proofs.Try.prog md n_law09_MatrixReduced = some ⟨2, 176, c_law09_MatrixReduced_0.erase, [.t 4]⟩ := by kernel_rfl
end Go.AM.Ytmihmgnjnedfcab
end

section
/- The law MatrixReduced. -/
set_option maxRecDepth 100000
set_option linter.unusedSimpArgs false
set_option linter.unusedVariables false
namespace Go.AM.Ytmihmgnjnedfcab
open Go Go.AM
attribute [local simp ↓] awp_seq awp_reg awp_skip awp_cond' awp_block awp_exit awp_ret awp_fz thenW_normal thenW_exit thenW_ret inBlk_normal inBlk_exit inBlk_ret aops_cons' contA_ap aops_nil e_mv e_guard' e_pick' e_ld' e_app e_cpy e_st' e_call callW_f updO_some updO_none e_bin' e_isnil' e_fadr' e_iadr' e_iarr' e_len' e_build' e_mkf' e_nc' e_not' e_neg' e_cvt' e_slc' e_fld' e_ext' e_min' e_eqs' e_new e_box e_mkl e_mks
attribute [local simp] upd_apply ev_t ev_k ev_f binA_add binA_sub binA_mul binA_quo binA_rem binA_eql binA_neq binA_lss binA_leq binA_gtr binA_geq det mem frame0 keeps_nil iadrA_sl fadrA_ref fadrA_fp ldv_agg ldv_one cells_base hset_same hset_hset lenA_fs lenA_sl lenA_nils zeros_ints ints_length one_base one_nilp one_nils one_ref one_sl one_fp one_fs one_fn gl_one resA resOf bound natOf afill splice AV.cells cells_agg bindR_some condR_true condR_false guardR_tup guardR_true guardR_true' guardR_false guardR_false' allocW_some pickA_true pickA_false
open Go.FM

/-- A pivot's column and what stands left of the pivot. -/
theorem red_b1 {D : Ds} {CL : List (List Int)} {rk n : Nat} {pv : List Nat} {CV : AV} {G : Hp} {i b5 : Nat} {fr : Fr} {K : AE → Fr → Hp → Prop} (rd : Rd D CL rk n pv) (hCM : ML CV CL) (hn : n ≤ 256) (hi : i < rk) (g5 : G b5 = some [I n, CV])
    (f5 : fr 5 = .ref b5 0) (f8 : fr 8 = I i) (f9 : fr 9 = I (pvF pv i)) (k : ∀ fr', fr' 2 = fr 2 → fr' 3 = fr 3 → fr' 5 = fr 5 → fr' 6 = fr 6 → fr' 81 = fr 81 → fr' 82 = fr 82 → fr' 83 = fr 83 → K .normal fr' G) : awp prog c_law09_MatrixReducedB1_2 K fr G := by
  have l51 := lq_snd g5
  have hco2 := hCM.len
  rw [rd.len] at hco2
  have hle := rd.le
  have hat := rd.lt i hi
  have hun := fun j hj => rd.unit j i hj hi
  have hze := fun j hj => rd.zero i j hi hj
  have hl := rd.len
  have hml := fun j hj => rd.mat.len (i := j) hj
  generalize pvF pv i = at' at *
  unfold c_law09_MatrixReducedB1_2
  generalize hC : c_law09_MatrixReducedB1_3 = C3
  simp [f5, l51, hco2]
  refine awp_for rk (fun j fr' h' => h' = G ∧ fr' 112 = I j) ⟨rfl, by simp⟩ ?_
  intro j fr2 h' hjn hk1 ⟨hh, k112⟩
  subst hh
  have k2 := hk1 2 (by decide)
  have k3 := hk1 3 (by decide)
  have k5 := hk1 5 (by decide)
  have k6 := hk1 6 (by decide)
  have k8 := hk1 8 (by decide)
  have k9 := hk1 9 (by decide)
  have k81 := hk1 81 (by decide)
  have k82 := hk1 82 (by decide)
  have k83 := hk1 83 (by decide)
  have k110 := hk1 110 (by decide)
  have k111 := hk1 111 (by decide)
  simp [f5, f8, f9] at k2 k3 k5 k6 k8 k9 k81 k82 k83 k110 k111
  clear hk1
  by_cases hlt : j < rk
  · have u1 : IntKind.i64.wrap ((j : Int) + 1) = j + 1 := w64 _ (by omega)
    obtain ⟨pa, row, hpa, hpl, hrow⟩ := hCM.rd (i := j) (by omega)
    have hrl := hml j (by omega)
    have hia := hrow.iadr (i := at') ⟨by omega, by omega⟩
    rw [Int.toNat_natCast] at hia
    have hld := fun h' => ld_ints (h := h') (l := CL.getD j []) (k := at') (by omega)
    rw [hun j hlt] at hld
    clear hun hze
    generalize CL.getD j [] = rj at *
    by_cases e : j = i
    · subst e
      simp only [if_true] at hld
      simp [k110, k111, k112, hlt, hpa, hpl, k8, k9, hia, hld, u1]
    · have e' : ¬ (j : Int) = i := by omega
      rw [if_neg e] at hld
      simp [k110, k111, k112, hlt, hpa, hpl, k8, k9, hia, hld, e, e', u1]
  have hjr : j = rk := by omega
  subst hjr
  obtain ⟨pa, row, hpa, hpl, hrow⟩ := hCM.rd (i := i) (by omega)
  have hrl := hml i (by omega)
  have hsl := hrow.slcN (lo := 0) (hi := at') (by omega) (by omega)
  have hsv := hrow.slv (lo := 0) (hi := at') (by omega) (by omega)
  have hpl' := fun h' => hpl h'
  simp [k111, k112]
  subst hC
  unfold c_law09_MatrixReducedB1_3
  generalize hC : c_law09_MatrixReducedB1_4 = C4
  have hsl0 : slcA row 0 at' none 1 = some (AM.slv row 0 at' 1) := hsl
  have hsvl := hsv.len
  have hl2 : (((CL.getD i []).drop 0).take (at' - 0)).length = at' := by rw [List.drop_zero, Nat.sub_zero, List.length_take]; omega
  rw [hl2] at hsvl
  generalize AM.slv row 0 at' 1 = sv at *
  simp [k5, l51, k8, k9, hpa, hpl, hsl0, hsvl, hrow.len]
  subst hC
  unfold c_law09_MatrixReducedB1_4
  refine awp_for at' (fun q fr' h2 => h2 = h' ∧ fr' 148 = I q) ⟨rfl, by simp⟩ ?_
  intro q fr3 h2 hqn hk1 ⟨hh, k148⟩
  subst hh
  have m2 := hk1 2 (by decide)
  have m3 := hk1 3 (by decide)
  have m5 := hk1 5 (by decide)
  have m6 := hk1 6 (by decide)
  have m81 := hk1 81 (by decide)
  have m82 := hk1 82 (by decide)
  have m83 := hk1 83 (by decide)
  have m146 := hk1 146 (by decide)
  have m147 := hk1 147 (by decide)
  simp [k2, k3, k5, k6, k81, k82, k83] at m2 m3 m5 m6 m81 m82 m83 m146 m147
  clear hk1
  by_cases hlt2 : q < at'
  · have u1 : IntKind.i64.wrap ((q : Int) + 1) = q + 1 := w64 _ (by omega)
    have hia := hsv.iadr (i := q) ⟨by omega, by omega⟩
    rw [Int.toNat_natCast] at hia
    have hld := fun h' => ld_ints (h := h') (l := ((CL.getD i []).drop 0).take (at' - 0)) (k := q) (by omega)
    have e0 : (((CL.getD i []).drop 0).take (at' - 0)).getD q 0 = 0 := by
      rw [List.drop_zero, Nat.sub_zero, take_get hlt2]; exact hze q hlt2
    rw [e0] at hld
    simp only [List.drop_zero, Nat.sub_zero] at hia hld
    generalize (CL.getD i []).take at' = tl at *
    simp [m146, m147, k148, hlt2, hia, hld, u1]
  · have hqr : q = at' := by omega
    subst hqr
    simp [m147, k148]
    exact k _ m2 m3 (m5.trans f5.symm) m6 m81 m82 m83

set_option maxHeartbeats 4000000 in
theorem s_MatrixReduced {p m : Int} {mv v : AV} {mo : List Int} (hmv : IL mv mo) (hml : mo.length < 4611686018427387904) {c : Int} {L : List (List Int)} (hv : ML v L) (hs : MSm L) :
    Pure prog n_law09_MatrixReduced [.agg [I p, I m, mv], .agg [I c, v]] (B true) := by
  refine pure_of cf_law09_MatrixReduced rfl fun h => ?_
  have hone := hmv.one
  have hone2 := hv.one
  unfold c_law09_MatrixReduced_0 c_law09_MatrixReduced_1
  generalize hC : c_law09_MatrixReduced_2 = C2
  simp [hone, hone2]
  intro b2 hb2 b3 hb3
  obtain ⟨g2, g3, hk⟩ := two_boxes (ys := [I c, v]) hb2 hb3
  generalize hset (hset h b2 [I p, I m, mv]) b3 [I c, v] = g at *
  obtain ⟨_, _, _, l2⟩ := ld3_at g2
  have l3 := lq_both g3
  refine s_awake.call ?_
  simp [l3]
  refine (s_Few hv hs.1 (n := 300) (by omega)).call ?_
  by_cases hf : fewB c L 300 = true
  case neg =>
    have : fewB c L 300 = false := by simpa using hf
    rw [this]
    simp
    refine s_awake.call ?_
    simp
    exact ⟨_, hk.sub, .id _, rfl⟩
  rw [hf]
  simp
  refine awp_gen [2, 3] fun fr1 hsl => ?_
  have p2 := hsl 2 (by simp)
  have p3 := hsl 3 (by simp)
  simp at p2 p3
  clear hsl
  subst hC
  unfold c_law09_MatrixReduced_2
  generalize hC : c_law09_MatrixReduced_3 = C3
  have q1 := s_Canonical (p := p) (m := m) hmv hml (c := c) hv hs
  simp [p2, p3, l2, l3]
  refine q1.call ?_
  clear q1
  by_cases he : openE p m mo [(c, L)] = 0
  case neg =>
    rw [canR_bad he]
    generalize openE p m mo [(c, L)] = e at *
    simp [st_box]
    intro b5 hb5
    have l51 := lq_snd (hset_same g b5 [I 0, .nils])
    have hk := hk.trans ((Kp.refl g).new hb5 [I 0, .nils])
    generalize hset g b5 [I 0, .nils] = G at *
    subst hC
    unfold c_law09_MatrixReduced_3
    generalize hC : c_law09_MatrixReduced_4 = C4
    simp [he, l51, lenA_nils]
    exact ⟨_, hk.sub, .id _, rfl⟩
  obtain ⟨hfp, n, rfl, hn, hLn, hM⟩ := openE_one he
  have r := hfp.fd
  obtain ⟨CV, PV, hcr, hCM, hPI, hcc, hco, hpo1⟩ := canR_ok he hM r
  rw [hcr]
  have rd := rd_of r hM
  have hcomb : ∀ i, i < L.length → combK (mkD p m mo) (pickL (L.getD i []) (elim (mkD p m mo) L n).pv) (canL (mkD p m mo) L n) n (rkN (mkD p m mo) L n) = L.getD i [] := fun i hi => can_comb (F := ⟨mkD p m mo, r⟩) hM hi
  have hle1 : rkN (mkD p m mo) L n ≤ L.length := (can_red (F := ⟨mkD p m mo, r⟩) hM n).le
  have hpl := pivL_len (mkD p m mo) L n
  have hpg : ∀ i, i < rkN (mkD p m mo) L n → (pivL (mkD p m mo) L n).getD i 0 = (pvF (elim (mkD p m mo) L n).pv i : Nat) := fun i hi => pv_get hi
  have hpk : ∀ row : List Int, (pivL (mkD p m mo) L n).map (fun x => row.getD x.toNat 0) = pickL row (elim (mkD p m mo) L n).pv := fun row => by
    unfold pivL pickL up
    rw [List.map_map]
    rfl
  have hpb : ∀ x ∈ pivL (mkD p m mo) L n, 0 ≤ x ∧ x < (n : Int) := fun x hx => by
    obtain ⟨i, hi, hix⟩ := List.mem_iff_getElem.1 hx
    have h2 := rd.lt i (by omega)
    have h1 := hpg i (by omega)
    simp only [List.getD, List.getElem?_eq_getElem hi, Option.getD_some] at h1
    rw [hix] at h1
    omega
  have hck := openE_mat hfp hn (by have := rd.len; have := rd.le; omega) rd.mat
  have q4 := s_Check (p := p) (m := m) hmv hml (c := n) hCM (mat_sm hn (by have := rd.len; have := rd.le; omega) rd.mat)
  have q5 := s_ref09Check (p := p) (m := m) hmv hml (c := n) hCM (mat_sm hn (by have := rd.len; have := rd.le; omega) rd.mat)
  have q6 := s_ref09Check (p := p) (m := m) hmv hml (c := n) hv hs
  rw [hck] at q4 q5
  rw [he] at q6
  have hmv2 : IL mv (mkD p m mo).mo := hmv
  have q7 := fun (x : List Int) (xv : AV) (hx : IL xv x) (hxl : x.length < 4611686018427387904) => s_Combine r hmv2 (xv := xv) (x := x) hx hCM hxl (by have := rd.len; have := rd.le; omega) (n := n) (by omega) (fun i hi => by rw [rd.mat.len hi]; exact Nat.le_refl n)
  rw [hfp.1.dp, hfp.1.dm] at q7
  generalize pivL (mkD p m mo) L n = PL at *
  generalize (elim (mkD p m mo) L n).pv = pv at *
  generalize canL (mkD p m mo) L n = CL at *
  generalize rkN (mkD p m mo) L n = rk at *
  have hst5 := fun h b R => st_box2 (h := h) (b := b) (n := n) (R := R) hcc hco
  simp [hst5]
  intro b5 hb5
  have kk := (Kp.refl g).new hb5 [I n, CV]
  have g5 := hset_same g b5 [I n, CV]
  have g2 := kk _ _ g2
  have g3 := kk _ _ g3
  have hk := hk.trans kk
  clear kk hb5 l2 l3
  generalize hset g b5 [I n, CV] = G at *
  obtain ⟨_, _, _, l2⟩ := ld3_at g2
  have l3 := lq_both g3
  have l30 := lq_fst g3
  have l31 := lq_snd g3
  have l5 := lq_both g5
  have l50 := lq_fst g5
  have l51 := lq_snd g5
  have hpo := hPI.len
  rw [hpl] at hpo
  have hco2 := hCM.len
  rw [rd.len] at hco2
  subst hC
  unfold c_law09_MatrixReduced_3
  generalize hC : c_law09_MatrixReduced_4 = C4
  simp
  subst hC
  unfold c_law09_MatrixReduced_4
  generalize hC : c_law09_MatrixReduced_5 = C5
  have hnl : ¬ (L.length : Int) < (rk : Int) := by omega
  simp [p2, p3, l2, l3]
  refine q6.call ?_
  simp [p2, p3, l50, l30, l51, hco2, hpo, l31, hv.len, hnl, hle1, l2, l5]
  refine q4.call ?_
  simp [p2, p3, l2, l5]
  refine q5.call ?_
  simp
  subst hC
  unfold c_law09_MatrixReduced_5
  generalize hC : c_law09_MatrixReduced_6 = C6
  have hrk256 : rk ≤ 256 := by have := rd.le; omega
  simp [hpo]
  refine awp_for rk (fun i fr' h' => h' = G ∧ fr' 83 = I i) ⟨rfl, by simp⟩ ?_
  intro i fr2 h' hin hk1 ⟨hh, k83⟩
  subst hh
  have k2 := hk1 2 (by decide)
  have k3 := hk1 3 (by decide)
  have k5 := hk1 5 (by decide)
  have k6 := hk1 6 (by decide)
  have k81 := hk1 81 (by decide)
  have k82 := hk1 82 (by decide)
  simp [p2, p3] at k2 k3 k5 k6 k81 k82
  clear hk1
  by_cases hltr : i < rk
  · have u1 : IntKind.i64.wrap ((i : Int) + 1) = i + 1 := w64 _ (by omega)
    have hltr' : (i : Int) < rk := by omega
    have hpi := hPI.iadr (i := i) ⟨by omega, by omega⟩
    rw [Int.toNat_natCast] at hpi
    have hpd := fun h' => ld_ints (h := h') (l := PL) (k := i) (by omega)
    rw [hpg i hltr] at hpd
    have hat := rd.lt i hltr
    have hun := fun j hj => rd.unit j i hj hltr
    have hze := fun j hj => rd.zero i j hltr hj
    have hcond : ∀ h, 0 < i → ∃ pa, iadrA PV (I ((i - 1 : Nat) : Int)) 1 = some pa ∧ cellsAt h pa 1 = some [I (pvF pv (i - 1))] ∧ pvF pv (i - 1) < pvF pv i := fun h h0 => by
      have hpi := hPI.iadr (i := ((i - 1 : Nat) : Int)) ⟨by omega, by omega⟩
      rw [Int.toNat_natCast] at hpi
      have hpd := ld_ints (h := h) (l := PL) (k := i - 1) (by omega)
      rw [hpg (i - 1) (by omega)] at hpd
      exact ⟨_, hpi, hpd, rd.mono _ _ (by omega) hltr⟩
    have b1 := fun fr K => red_b1 (fr := fr) (K := K) rd hCM hn hltr g5
    generalize pvF pv i = at' at *
    have e1 : ¬ (at' : Int) < 0 := by omega
    have e2 : ¬ (n : Int) ≤ at' := by omega
    have e2' : ¬ n ≤ at' := by omega
    unfold c_law09_MatrixReducedL0_0 c_law09_MatrixReducedL0_1 c_law09_MatrixReducedL0_2 c_law09_MatrixReducedB1_0 c_law09_MatrixReducedB1_1
    generalize hD2 : c_law09_MatrixReducedB1_2 = D2 at *
    by_cases h0 : 0 < i
    · obtain ⟨pa, ha1, ha2, ha3⟩ := hcond h' h0
      have u2 : IntKind.i64.wrap ((i : Int) - 1) = ((i - 1 : Nat) : Int) := by rw [w64 _ (by omega)]; omega
      have e3 : ¬ (at' : Int) ≤ (pvF pv (i - 1) : Int) := by omega
      generalize pvF pv (i - 1) = pp at *
      generalize ((i - 1 : Nat) : Int) = ii at *
      simp [k82, k83, hltr, hltr', k81, hpi, hpd, e1, k5, l50, e2, e2', h0, k6, u2, ha1, ha2, e3]
      refine b1 _ _ (by simp [k5]) (by simp) (by simp) fun fr3 n2 n3 n5 n6 n81 n82 n83 => ?_
      simp at n2 n3 n5 n6 n81 n82 n83
      simp [n83, k83, u1]
    · simp [k82, k83, hltr, hltr', k81, hpi, hpd, e1, k5, l50, e2, e2', h0]
      refine b1 _ _ (by simp [k5]) (by simp) (by simp) fun fr3 n2 n3 n5 n6 n81 n82 n83 => ?_
      simp at n2 n3 n5 n6 n81 n82 n83
      simp [n83, k83, u1]
  · have hirk : i = rk := by omega
    simp [k82, k83, hirk]
    subst hC
    unfold c_law09_MatrixReduced_6
    generalize hC : c_law09_MatrixReduced_7 = C7
    simp [k3, l31, hv.len]
    refine awp_for L.length (fun q fr' h2 => h2 = h' ∧ fr' 159 = I q) ⟨rfl, by simp⟩ ?_
    intro q fr3 h2 hqn hk1 ⟨hh, k159⟩
    subst hh
    have m2 := hk1 2 (by decide)
    have m5 := hk1 5 (by decide)
    have m6 := hk1 6 (by decide)
    have m157 := hk1 157 (by decide)
    have m158 := hk1 158 (by decide)
    simp [k2, k5, k6] at m2 m5 m6 m157 m158
    clear hk1
    by_cases hlt2 : q < L.length
    · have u1 : IntKind.i64.wrap ((q : Int) + 1) = q + 1 := w64 _ (by omega)
      obtain ⟨pa, row, hpa, hpl2, hrow⟩ := hv.rd hlt2
      have hrl := hM.len hlt2
      have w1 := s_Pick hrow hPI (by omega) (fun x hx => by have := hpb x hx; omega)
      rw [hpk, hpl] at w1
      have hkl : (pickL (L.getD q []) pv).length = rk := by rw [pickL, List.length_map, rd.pvl]
      have hik : IL (.fs rk (ints (pickL (L.getD q []) pv))) (pickL (L.getD q []) pv) := by
        have := IL.fs (pickL (L.getD q []) pv)
        rwa [hkl] at this
      have w2 := q7 _ _ hik (by omega)
      rw [hkl, rd.len, Nat.min_self, hcomb q hlt2] at w2
      have hio : IL (.fs n (ints (L.getD q []))) (L.getD q []) := by
        have := IL.fs (L.getD q [])
        rwa [hrl] at this
      have w3 := s_SameInts hio hrow (by omega)
      rw [decide_eq_true rfl] at w3
      generalize AV.fs rk (ints (pickL (L.getD q []) pv)) = x1 at *
      generalize AV.fs n (ints (L.getD q [])) = x2 at *
      simp [m157, m158, k159, hlt2, hpa, hpl2, m6, m5, m2, l2, l51, l50]
      refine w1.call ?_
      simp
      refine w2.call ?_
      simp
      refine w3.call ?_
      simp [k159, u1, hlt2]
    · have : q = L.length := by omega
      subst this
      simp [m158, k159]
      subst hC
      simp
      exact ⟨_, hk.sub, .id _, rfl⟩
end Go.AM.Ytmihmgnjnedfcab
end

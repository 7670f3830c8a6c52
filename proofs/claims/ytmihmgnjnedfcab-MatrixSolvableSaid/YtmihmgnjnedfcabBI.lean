import Derived.Test.YtmihmgnjnedfcabBH
import Derived.Test.YtmihmgnjnedfcabBB

section
/- Parts that the laws of chapter 9 share. -/
set_option maxRecDepth 100000
set_option linter.unusedSimpArgs false
set_option linter.unusedVariables false
namespace Go.AM.Ytmihmgnjnedfcab
open Go Go.AM
attribute [local simp ↓] awp_seq awp_reg awp_skip awp_cond' awp_block awp_exit awp_ret awp_fz thenW_normal thenW_exit thenW_ret inBlk_normal inBlk_exit inBlk_ret aops_cons' contA_ap aops_nil e_mv e_guard' e_pick' e_ld' e_app e_cpy e_st' e_call callW_f updO_some updO_none e_bin' e_isnil' e_fadr' e_iadr' e_iarr' e_len' e_build' e_mkf' e_nc' e_not' e_neg' e_cvt' e_slc' e_fld' e_ext' e_min' e_eqs' e_new e_box e_mkl e_mks
attribute [local simp] upd_apply ev_t ev_k ev_f binA_add binA_sub binA_mul binA_quo binA_rem binA_eql binA_neq binA_lss binA_leq binA_gtr binA_geq det mem frame0 keeps_nil iadrA_sl fadrA_ref fadrA_fp ldv_agg ldv_one cells_base hset_same hset_hset lenA_fs lenA_sl lenA_nils zeros_ints ints_length one_base one_nilp one_nils one_ref one_sl one_fp one_fs one_fn gl_one resA resOf bound natOf afill splice AV.cells cells_agg bindR_some condR_true condR_false guardR_tup guardR_true guardR_true' guardR_false guardR_false' allocW_some pickA_true pickA_false
open Go.FM

theorem canR_ok {p m : Int} {mo : List Int} {n : Nat} {L : List (List Int)} (he : openE p m mo [((n : Int), L)] = 0) (hM : Mat (mkD p m mo) n L) (r : Fd (mkD p m mo)) : ∃ CV PV, canR p m mo n L = .tup [.agg [I n, CV], PV, I 0] ∧ ML CV (canL (mkD p m mo) L n) ∧ IL PV (pivL (mkD p m mo) L n) ∧ CV.cells = [CV] ∧ one CV = true ∧ one PV = true := by
  have hcl := canL_len0 r hM n
  refine ⟨_, _, by unfold canR; rw [if_pos he, Int.toNat_natCast], ?_, gil_IL _, rfl, rfl, (gil_IL _).one⟩
  rw [← hcl]; exact ML_fs _
theorem canR_bad {p m : Int} {mo : List Int} {c : Int} {L : List (List Int)} (he : openE p m mo [(c, L)] ≠ 0) : canR p m mo c L = .tup [.agg [I 0, .nils], .nils, I (openE p m mo [(c, L)])] := by
  unfold canR; rw [if_neg he]
theorem st_box2 {h : Hp} {b : Nat} {n : Int} {cv : AV} {R : AV → Hp → Prop} (h1 : cv.cells = [cv]) (h2 : one cv = true) : stR (.ref b 0) (.agg [I n, cv]) 2 (hset h b [I 0, .nils]) R = R (.tup []) (hset h b [I n, cv]) :=
  st_box (cs := [I 0, .nils]) (cs' := [I n, cv]) rfl rfl (by show (one (I n) && (one cv && true)) = true; rw [h2]; rfl)
/-- A matrix over the field has no error. -/
theorem openE_mat {p m : Int} {mo : List Int} {n : Nat} {L : List (List Int)} (hf : FieldP p m mo) (hn : n ≤ 256) (hl : L.length ≤ 256) (hM : Mat (mkD p m mo) n L) : openE p m mo [((n : Int), L)] = 0 := by
  unfold openE
  rw [if_pos hf]
  have : chkE (mkD p m mo) n L = 0 := by
    unfold chkE
    rw [if_neg (by omega), if_neg (fun hh => hh fun row hr => by rw [(hM row hr).1]), if_pos fun row hr x hx => (hM row hr).2 x hx]
  simp only [chkAll]
  rw [if_neg (by simpa using this)]
theorem mat_sm {D : Ds} {n : Nat} {L : List (List Int)} (hn : n ≤ 256) (hl : L.length ≤ 256) (hM : Mat D n L) : MSm L := ⟨by omega, fun row hr => by rw [(hM row hr).1]; omega⟩
theorem pv_get {D : Ds} {L : List (List Int)} {n i : Nat} (hi : i < (elim D L n).pv.length) : (pivL D L n).getD i 0 = (pvF (elim D L n).pv i : Nat) := map_getD' Int.ofNat (elim D L n).pv i 0 0 hi
/-- What a canonical matrix is. -/
structure Rd (D : Ds) (CL : List (List Int)) (rk n : Nat) (pv : List Nat) : Prop where
  len : CL.length = rk
  pvl : pv.length = rk
  le : rk ≤ n
  mat : Mat D n CL
  lt : ∀ i, i < rk → pvF pv i < n
  mono : ∀ i j, i < j → j < rk → pvF pv i < pvF pv j
  unit : ∀ i j, i < rk → j < rk → (CL.getD i []).getD (pvF pv j) 0 = if i = j then 1 else 0
  zero : ∀ i j, i < rk → j < pvF pv i → (CL.getD i []).getD j 0 = 0
theorem rd_of {D : Ds} (r : Fd D) {n : Nat} {L : List (List Int)} (hM : Mat D n L) : Rd D (canL D L n) (rkN D L n) n (elim D L n).pv :=
  ⟨canL_len0 r hM n, rfl, elim_le2 r hM n, canL_mat0 r hM n, fun i hi => can_lt (F := ⟨D, r⟩) hM n hi, fun i j h1 h2 => can_mono (F := ⟨D, r⟩) hM n h1 h2,
   fun i j h1 h2 => can_unit (F := ⟨D, r⟩) hM n h1 h2, fun i j h1 h2 => can_zero (F := ⟨D, r⟩) hM n h1 h2⟩
end Go.AM.Ytmihmgnjnedfcab
end

section
/- Solutions of equations over a field. No code is walked here. -/
set_option maxRecDepth 100000
set_option linter.unusedSimpArgs false
set_option linter.unusedVariables false
namespace Go.AM.Ytmihmgnjnedfcab
open Go Go.AM Go.FM Go.LA

theorem solK_get {rows : List (List Int)} {pv : List Nat} {n : Nat} (hm : ∀ i j, i < j → j < pv.length → pvF pv i < pvF pv j) (hlt : ∀ i, i < pv.length → pvF pv i < n) : ∀ k, k ≤ pv.length → (∀ i, i < k → (solK rows pv n k).getD (pvF pv i) 0 = (rows.getD i []).getD n 0) ∧
    ∀ j, (∀ i, i < k → pvF pv i ≠ j) → (solK rows pv n k).getD j 0 = 0
  | 0, _ => ⟨fun i hi => by omega, fun j _ => by
      simp only [solK]
      by_cases hj : j < n
      · simp [List.getD, hj]
      · exact getD_out (by simp; omega)⟩
  | k + 1, hk => by
    obtain ⟨h1, h2⟩ := solK_get (rows := rows) hm hlt k (by omega)
    have hl := solK_len rows pv n k
    have hpi := hlt k (by omega)
    refine ⟨fun i hi => ?_, fun j hj => ?_⟩
    · simp only [solK]
      rw [getD_set]
      by_cases e : i = k
      · subst e
        rw [if_pos ⟨rfl, by rw [hl]; exact hpi⟩]
      · have := hm i k (by omega) (by omega)
        rw [if_neg (by unfold pvF at *; omega)]
        exact h1 i (by omega)
    · simp only [solK]
      rw [getD_set, if_neg (fun hh => hj k (by omega) hh.1.symm)]
      exact h2 j fun i hi => hj i (by omega)

/-- The products of the rows with x. -/
def prodL (D : Ds) (L : List (List Int)) (x : List Int) (n : Nat) : List Int := L.map fun row => dotK D row x n
theorem prodL_len (D : Ds) (L : List (List Int)) (x : List Int) (n : Nat) : (prodL D L x n).length = L.length := by simp [prodL]
theorem prodL_get {D : Ds} {L : List (List Int)} {x : List Int} {n i : Nat} (hi : i < L.length) : (prodL D L x n).getD i 0 = dotK D (L.getD i []) x n := map_getD' (fun row => dotK D row x n) L i [] 0 hi

theorem elimA_pv {D : Ds} {L : List (List Int)} {b : List Int} {n : Nat} (hb : b.length = L.length) (hw : ∀ row ∈ L, row.length = n) : (elimA D L b n).pv = (elim D L n).pv := by
  have := elim_tk (D := D) (w := n) (augL L b) n (Nat.le_refl n)
  unfold augL at this
  rw [joinL_tk (by simp [hb]) hw] at this
  rw [this]; rfl

theorem sol_math {F : FB} {n : Nat} {L : List (List Int)} (m : Mat F.D n L) {x : List Int} :
    (∀ i, (elimA F.D L (prodL F.D L x n) n).pv.length ≤ i → i < L.length → ((elimA F.D L (prodL F.D L x n) n).L.getD i []).getD n 0 = 0) ∧
    (∀ i, i < L.length → dotK F.D (L.getD i []) (solX F.D L (prodL F.D L x n) n) n = dotK F.D (L.getD i []) x n) ∧
    ∀ j, j ∉ (elim F.D L n).pv → (solX F.D L (prodL F.D L x n) n).getD j 0 = 0 := by
  have hbl := prodL_len F.D L x n
  have hbg := fun i hi => prodL_get (D := F.D) (L := L) (x := x) (n := n) (i := i) hi
  have hbR : ∀ y ∈ prodL F.D L x n, F.D.R y := fun y hy => by
    obtain ⟨row, hr, rfl⟩ := List.mem_map.1 hy
    exact dotK_R F.r.toOk _ _ _
  have hpv := elimA_pv (D := F.D) hbl (fun row hr => (m row hr).1)
  generalize prodL F.D L x n = b at *
  have hJl := augL_len hbl
  have hJM : Mat F.D (n + 1) (augL L b) := joinL_mat (by simp [hbl]) m fun row hr => by
    obtain ⟨y, hy, rfl⟩ := List.mem_map.1 hr
    exact ⟨rfl, fun z hz => by rw [List.mem_singleton] at hz; rw [hz]; exact hbR y hy⟩
  have hes := elim_spec (F := F) hJM n
  have hred := hes.red
  obtain ⟨d, hop, _⟩ := hes.op
  have hmE : Mat F.D (n + 1) (elim F.D (augL L b) n).L := hJM.elim F.r.toOk n
  have hln : (elim F.D (augL L b) n).L.length = L.length := by rw [elim_len, hJl]
  rw [hJl] at hred hop
  have hsX : solX F.D L b n = solK (elim F.D (augL L b) n).L (elim F.D (augL L b) n).pv n (elim F.D (augL L b) n).pv.length := rfl
  rw [hsX]
  rw [← hpv]
  show (∀ i, (elim F.D (augL L b) n).pv.length ≤ i → i < L.length → ((elim F.D (augL L b) n).L.getD i []).getD n 0 = 0) ∧ _ ∧ ∀ j, j ∉ (elim F.D (augL L b) n).pv → _
  clear hpv hsX hes
  generalize elim F.D (augL L b) n = E at *
  obtain ⟨EL, pv, dt⟩ := E
  simp only at *
  obtain ⟨s1, s2⟩ := solK_get (rows := EL) hred.mono hred.lt pv.length (Nat.le_refl _)
  -- the rows of the matrix and the right side
  have hA : ∀ i, i < L.length → (∀ j, j < n → mtx F (augL L b) i j = mtx F L i j) ∧ mtx F (augL L b) i n = toK F (b.getD i 0) := fun i hi => by
    have hl := m.len hi
    unfold mtx vc
    rw [augL_get hbl hi]
    refine ⟨fun j hj => ?_, ?_⟩
    · congr 1
      simp [List.getD, List.getElem?_append_left (show j < (L.getD i []).length by omega)]
      rw [List.getElem?_append_left]
      have : L[i]?.getD [] = L.getD i [] := rfl
      rw [this]; omega
    · congr 1
      have : (L.getD i [] ++ [b.getD i 0]).getD n 0 = b.getD i 0 := by
        rw [← hl]
        simp only [List.getD, List.getElem?_append_right (Nat.le_refl _), Nat.sub_self]
        rfl
      exact this
  have hx0 : ∀ i, i < L.length → dots n (mtx F (augL L b) i) (vc F x) = mtx F (augL L b) i n := fun i hi => by
    rw [(hA i hi).2, hbg i hi, dotK_eq]
    exact Sm_congr fun j hj => by rw [(hA i hi).1 j hj]; rfl
  have hx1 := hop.sol hx0
  have hz := hred.solv hx1
  have hz0 : ∀ i, pv.length ≤ i → i < L.length → (EL.getD i []).getD n 0 = 0 := fun i h1 h2 => by
    refine toK_inj (F := F) (hmE.get F.r.toOk i _) F.r.toOk.q0 ?_
    rw [toK_zero]
    exact hz i h1 h2
  have hy1 := hred.sol (y := vc F (solK EL pv n pv.length)) hz (fun i hi => by
    have := s1 i hi
    unfold pvF at this
    unfold vc; rw [this]; rfl) (fun j hj hne => by
    unfold vc; rw [s2 j hne]; exact toK_zero)
  obtain ⟨d', hop'⟩ := hop.symm
  have hy2 := hop'.sol hy1
  refine ⟨hz0, fun i hi => ?_, fun j hj => s2 j fun i hi he => hj (he ▸ mem_getD hi)⟩
  refine toK_inj (F := F) (dotK_R F.r.toOk _ _ _) (dotK_R F.r.toOk _ _ _) ?_
  rw [← hbg i hi, ← (hA i hi).2, ← hy2 i hi, dotK_eq]
  exact Sm_congr fun j hj => by rw [(hA i hi).1 j hj]; rfl
end Go.AM.Ytmihmgnjnedfcab
end

section
/- Codes of the program, as the conversion gives them. -/
set_option maxRecDepth 100000
namespace Go.AM.Ytmihmgnjnedfcab
open Go Go.AM
-- law09_MatrixSolvable
abbrev c_law09_MatrixSolvableL0_3 : SC := (.reg [o 61 (.bin .add (.t 50) (ki 1)), o 50 (.mv (.t 61))])
abbrev c_law09_MatrixSolvableL0_2 : SC := .seq (.block 1 (.seq (.reg [o 52 (.iadr (.t 48) (.t 50) 1), o 53 (.ld (.t 52) 1 false), o 9 (.mv (.t 53))]) (.reg [o 54 (.mv (.t 7)), o 55 (.ld (.t 3) 3 true), o 56 (.mv (.t 9)), o 57 (.mv (.t 2)), o 58 (.call (.f n_ref04_Dot) [.t 55, .t 56, .t 57]), o 59 (.mkl 1 1 [I 0] [(0, (1, .t 58))]), o 60 (.app (.t 54) (.t 59) 1), o 7 (.mv (.t 60))]))) c_law09_MatrixSolvableL0_3
abbrev c_law09_MatrixSolvableL0_1 : SC := .seq (.cond (.t 51) .skip (.exit 0)) c_law09_MatrixSolvableL0_2
abbrev c_law09_MatrixSolvableL0_0 : SC := .seq (.reg [o 51 (.bin .lss (.t 50) (.t 49))]) c_law09_MatrixSolvableL0_1
abbrev c_law09_MatrixSolvableL1_3 : SC := (.reg [o 106 (.bin .add (.t 92) (ki 1)), o 92 (.mv (.t 106))])
abbrev c_law09_MatrixSolvableL1_2 : SC := .seq (.block 3 (.seq (.reg [o 94 (.mv (.t 92)), o 95 (.iadr (.t 90) (.t 92) 1), o 96 (.ld (.t 95) 1 false), o 15 (.mv (.t 94)), o 16 (.mv (.t 96))]) (.seq (.reg [o 98 (.mv (.t 16)), o 99 (.mv (.t 10)), o 101 (.mv (.t 7)), o 102 (.mv (.t 15)), o 103 (.iadr (.t 101) (.t 102) 1), o 97 (.ld (.t 3) 3 true), o 104 (.ld (.t 103) 1 false), om 1 100 (.call (.f n_ref04_Dot) [.t 97, .t 98, .t 99]), o 105 (.bin .neq (.t 100) (.t 104))]) (.cond (.t 105) (.seq (.reg [o 6 (.mv (kb false))]) .ret) .skip)))) c_law09_MatrixSolvableL1_3
abbrev c_law09_MatrixSolvableL1_1 : SC := .seq (.cond (.t 93) .skip (.exit 2)) c_law09_MatrixSolvableL1_2
abbrev c_law09_MatrixSolvableL1_0 : SC := .seq (.reg [o 93 (.bin .lss (.t 92) (.t 91))]) c_law09_MatrixSolvableL1_1
abbrev c_law09_MatrixSolvableL3_3 : SC := (.reg [o 128 (.bin .add (.t 118) (ki 1)), o 118 (.mv (.t 128))])
abbrev c_law09_MatrixSolvableL3_2 : SC := .seq (.block 7 (.seq (.reg [o 120 (.iadr (.t 116) (.t 118) 1), o 121 (.ld (.t 120) 1 false), o 21 (.mv (.t 121))]) (.reg [o 122 (.mv (.t 19)), o 123 (.mv (.t 122)), og 123 false 0 124 (.mv (.t 21)), og 123 false 0 125 (.mv (.t 17)), og 123 false 0 126 (.bin .eql (.t 124) (.t 125)), o 127 (.pick (.t 123) (kb true) (.t 126)), o 19 (.mv (.t 127))]))) c_law09_MatrixSolvableL3_3
abbrev c_law09_MatrixSolvableL3_1 : SC := .seq (.cond (.t 119) .skip (.exit 6)) c_law09_MatrixSolvableL3_2
abbrev c_law09_MatrixSolvableL3_0 : SC := .seq (.reg [o 119 (.bin .lss (.t 118) (.t 117))]) c_law09_MatrixSolvableL3_1
abbrev c_law09_MatrixSolvableL2_3 : SC := (.reg [o 131 (.bin .add (.t 109) (ki 1)), o 109 (.mv (.t 131))])
abbrev c_law09_MatrixSolvableL2_2 : SC := .seq (.block 5 (.seq (.reg [o 111 (.mv (.t 109)), o 112 (.iadr (.t 107) (.t 109) 1), o 113 (.ld (.t 112) 1 false), o 17 (.mv (.t 111)), o 18 (.mv (.t 113))]) (.seq (.reg [o 114 (.mv (.t 18)), o 115 (.bin .eql (.t 114) (ki 0)), o 19 (.mv (.t 115))]) (.seq (.seq (.reg [o 116 (.mv (.t 13)), o 117 (.len (.t 116)), o 118 (.mv (ki 0))]) (.block 6 (.loop c_law09_MatrixSolvableL3_0))) (.seq (.reg [o 129 (.mv (.t 19)), o 130 (.not (.t 129))]) (.cond (.t 130) (.seq (.reg [o 6 (.mv (kb false))]) .ret) .skip)))))) c_law09_MatrixSolvableL2_3
abbrev c_law09_MatrixSolvableL2_1 : SC := .seq (.cond (.t 110) .skip (.exit 4)) c_law09_MatrixSolvableL2_2
abbrev c_law09_MatrixSolvableL2_0 : SC := .seq (.reg [o 110 (.bin .lss (.t 109) (.t 108))]) c_law09_MatrixSolvableL2_1
abbrev c_law09_MatrixSolvable_11 : SC := .ret
abbrev c_law09_MatrixSolvable_10 : SC := .seq (.reg [o 6 (.mv (kb true))]) c_law09_MatrixSolvable_11
abbrev c_law09_MatrixSolvable_9 : SC := .seq (.seq (.reg [o 107 (.mv (.t 10)), o 108 (.len (.t 107)), o 109 (.mv (ki 0))]) (.block 4 (.loop c_law09_MatrixSolvableL2_0))) c_law09_MatrixSolvable_10
abbrev c_law09_MatrixSolvable_8 : SC := .seq (.seq (.reg [o 89 (.fadr (.t 4) 1), o 90 (.ld (.t 89) 1 false), o 91 (.len (.t 90)), o 92 (.mv (ki 0))]) (.block 2 (.loop c_law09_MatrixSolvableL1_0))) c_law09_MatrixSolvable_9
abbrev c_law09_MatrixSolvable_7 : SC := .seq (.seq (.reg [o 76 (.mv (.t 11)), o 77 (.bin .neq (.t 76) (ki 0)), o 78 (.mv (.t 77)), og 78 false 0 79 (.mv (.t 14)), og 78 false 0 80 (.bin .neq (.t 79) (ki 0)), o 81 (.pick (.t 78) (kb true) (.t 80)), o 82 (.mv (.t 81)), og 82 false 0 83 (.mv (.t 10)), og 82 false 0 84 (.len (.t 83)), og 82 false 0 85 (.fadr (.t 4) 0), og 82 false 0 86 (.ld (.t 85) 1 false), og 82 false 0 87 (.bin .neq (.t 84) (.t 86)), o 88 (.pick (.t 82) (kb true) (.t 87))]) (.cond (.t 88) (.seq (.reg [o 6 (.mv (kb false))]) .ret) .skip)) c_law09_MatrixSolvable_8
abbrev c_law09_MatrixSolvable_6 : SC := .seq (.reg [o 70 (.ld (.t 3) 3 true), o 71 (.ld (.t 4) 2 true), o 72 (.call (.f n_matrix_Canonical) [.t 70, .t 71]), o 69 (.mv (.t 72)), o 73 (.ext (.t 69) 0), o 74 (.ext (.t 69) 1), o 75 (.ext (.t 69) 2), o 12 (.new [I 0, .nils]), os (.st (.t 12) (.t 73) 2), o 13 (.mv (.t 74)), o 14 (.mv (.t 75))]) c_law09_MatrixSolvable_7
abbrev c_law09_MatrixSolvable_5 : SC := .fz [7] (.seq (.reg [o 63 (.ld (.t 3) 3 true), o 64 (.ld (.t 4) 2 true), o 65 (.mv (.t 7)), o 66 (.call (.f n_matrix_Solve) [.t 63, .t 64, .t 65]), o 62 (.mv (.t 66)), o 67 (.ext (.t 62) 0), o 68 (.ext (.t 62) 1), o 10 (.mv (.t 67)), o 11 (.mv (.t 68))]) c_law09_MatrixSolvable_6)
abbrev c_law09_MatrixSolvable_4 : SC := .seq (.seq (.reg [o 47 (.fadr (.t 4) 1), o 48 (.ld (.t 47) 1 false), o 49 (.len (.t 48)), o 50 (.mv (ki 0))]) (.block 0 (.loop c_law09_MatrixSolvableL0_0))) c_law09_MatrixSolvable_5
abbrev c_law09_MatrixSolvable_3 : SC := .seq (.reg [o 7 (.mv (.k .nils))]) c_law09_MatrixSolvable_4
abbrev c_law09_MatrixSolvable_2 : SC := .seq (.seq (.reg [o 35 (.ld (.t 3) 3 true), o 36 (.ld (.t 4) 2 true), o 37 (.call (.f n_ref09_Check) [.t 35, .t 36]), o 38 (.bin .neq (.t 37) (ki 0)), o 39 (.mv (.t 38)), og 39 false 0 40 (.ld (.t 3) 3 true), og 39 false 0 41 (.mv (.t 2)), og 39 false 0 42 (.fadr (.t 4) 0), og 39 false 0 43 (.ld (.t 42) 1 false), og 39 false 0 44 (.call (.f n_ref09_Vector) [.t 40, .t 41, .t 43]), og 39 false 0 45 (.bin .neq (.t 44) (ki 0)), o 46 (.pick (.t 39) (kb true) (.t 45))]) (.cond (.t 46) (.seq (.reg [o 6 (.mv (kb true))]) .ret) .skip)) c_law09_MatrixSolvable_3
abbrev c_law09_MatrixSolvable_1 : SC := .seq (.seq (.reg [o 22 (.call (.f n_law09_awake) []), o 23 (.not (.t 22)), o 24 (.mv (.t 23)), og 24 false 0 25 (.ld (.t 4) 2 true), og 24 false 0 26 (.call (.f n_ref09_Few) [.t 25, ki 200]), og 24 false 0 27 (.not (.t 26)), o 28 (.pick (.t 24) (kb true) (.t 27)), o 29 (.mv (.t 28)), og 29 false 0 30 (.mv (.t 2)), og 29 false 0 31 (.len (.t 30)), og 29 false 0 32 (.bin .gtr (.t 31) (ki 300)), o 33 (.pick (.t 29) (kb true) (.t 32))]) (.cond (.t 33) (.seq (.reg [o 34 (.call (.f n_law09_awake) []), o 6 (.mv (.t 34))]) .ret) .skip)) c_law09_MatrixSolvable_2
abbrev c_law09_MatrixSolvable_0 : SC := .seq (.reg [o 3 (.box (.t 0)), o 4 (.box (.t 1)), o 6 (.mv (kb false))]) c_law09_MatrixSolvable_1
theorem cf_law09_MatrixSolvable : cfun Go.Proofs.Try.prog md n_law09_MatrixSolvable = some ⟨3, 132, c_law09_MatrixSolvable_0.erase, [.t 6]⟩ := by kernel_rfl
end Go.AM.Ytmihmgnjnedfcab
end

section
/- The law MatrixSolvable. -/
set_option maxRecDepth 100000
set_option linter.unusedSimpArgs false
set_option linter.unusedVariables false
namespace Go.AM.Ytmihmgnjnedfcab
open Go Go.AM
attribute [local simp ↓] awp_seq awp_reg awp_skip awp_cond' awp_block awp_exit awp_ret awp_fz thenW_normal thenW_exit thenW_ret inBlk_normal inBlk_exit inBlk_ret aops_cons' contA_ap aops_nil e_mv e_guard' e_pick' e_ld' e_app e_cpy e_st' e_call callW_f updO_some updO_none e_bin' e_isnil' e_fadr' e_iadr' e_iarr' e_len' e_build' e_mkf' e_nc' e_not' e_neg' e_cvt' e_slc' e_fld' e_ext' e_min' e_eqs' e_new e_box e_mkl e_mks
attribute [local simp] upd_apply ev_t ev_k ev_f binA_add binA_sub binA_mul binA_quo binA_rem binA_eql binA_neq binA_lss binA_leq binA_gtr binA_geq det mem frame0 keeps_nil iadrA_sl fadrA_ref fadrA_fp ldv_agg ldv_one cells_base hset_same hset_hset lenA_fs lenA_sl lenA_nils zeros_ints ints_length one_base one_nilp one_nils one_ref one_sl one_fp one_fs one_fn gl_one resA resOf bound natOf afill splice AV.cells cells_agg bindR_some condR_true condR_false guardR_tup guardR_true guardR_true' guardR_false guardR_false' allocW_some pickA_true pickA_false
open Go.FM

set_option maxHeartbeats 4000000 in
theorem s_MatrixSolvable {p m : Int} {mv v xv : AV} {mo : List Int} (hmv : IL mv mo) (hml : mo.length < 4611686018427387904) {c : Int} {L : List (List Int)} (hv : ML v L) (hs : MSm L) {x : List Int} (hx : IL xv x) (hxl : x.length < 4611686018427387904) :
    Pure prog n_law09_MatrixSolvable [.agg [I p, I m, mv], .agg [I c, v], xv] (B true) := by
  refine pure_of cf_law09_MatrixSolvable rfl fun h => ?_
  have hone := hmv.one
  have hone2 := hv.one
  unfold c_law09_MatrixSolvable_0 c_law09_MatrixSolvable_1
  generalize hC : c_law09_MatrixSolvable_2 = C2
  simp [hone, hone2]
  intro b3 hb3 b4 hb4
  obtain ⟨g3, g4, hk⟩ := two_boxes (ys := [I c, v]) hb3 hb4
  generalize hset (hset h b3 [I p, I m, mv]) b4 [I c, v] = g at *
  obtain ⟨_, _, _, l3⟩ := ld3_at g3
  have l4 := lq_both g4
  have l40 := lq_fst g4
  have l41 := lq_snd g4
  refine s_awake.call ?_
  simp [l4]
  refine (s_Few hv hs.1 (n := 200) (by omega)).call ?_
  by_cases hf : fewB c L 200 = true
  case neg =>
    have : fewB c L 200 = false := by simpa using hf
    rw [this]
    simp
    refine s_awake.call ?_
    simp
    exact ⟨_, hk.sub, .id _, rfl⟩
  rw [hf]
  by_cases h3 : (300 : Int) < x.length
  · simp [hx.len, h3]
    refine s_awake.call ?_
    simp
    exact ⟨_, hk.sub, .id _, rfl⟩
  simp [hx.len, h3]
  refine awp_gen [2, 3, 4] fun fr1 hsl => ?_
  have p2 := hsl 2 (by simp)
  have p3 := hsl 3 (by simp)
  have p4 := hsl 4 (by simp)
  simp at p2 p3 p4
  clear hsl
  subst hC
  unfold c_law09_MatrixSolvable_2
  generalize hC : c_law09_MatrixSolvable_3 = C3
  simp [p3, p4, l3, l4]
  refine (s_ref09Check (p := p) (m := m) hmv hml (c := c) hv hs).call ?_
  by_cases he : openE p m mo [(c, L)] = 0
  case neg =>
    generalize openE p m mo [(c, L)] = e at *
    simp [he]
    exact ⟨_, hk.sub, .id _, rfl⟩
  obtain ⟨hfp, n, rfl, hn, hLn, hM⟩ := openE_one he
  rw [he]
  have r := hfp.fd
  have hmv2 : IL mv (mkD p m mo).mo := hmv
  have hvc := s_Vector r.toRg hone hx hxl n
  rw [hfp.1.dp, hfp.1.dm] at hvc
  simp [p2, p3, p4, l3, l40]
  refine hvc.call ?_
  by_cases hen : vctE (mkD p m mo) x n = 0
  case neg =>
    generalize vctE (mkD p m mo) x n = e at *
    simp [hen]
    exact ⟨_, hk.sub, .id _, rfl⟩
  rw [hen]
  have hxn : x.length = n := by
    unfold vctE at hen
    split at hen
    · omega
    · omega
  simp
  subst hC
  unfold c_law09_MatrixSolvable_3 c_law09_MatrixSolvable_4
  generalize hC : c_law09_MatrixSolvable_5 = C5
  have hbl := prodL_len (mkD p m mo) L x n
  have hbg := fun i hi => prodL_get (D := mkD p m mo) (L := L) (x := x) (n := n) (i := i) hi
  obtain ⟨sm1, sm2, sm3⟩ := sol_math (F := ⟨mkD p m mo, r⟩) hM (x := x)
  have hbR : ∀ y ∈ prodL (mkD p m mo) L x n, (mkD p m mo).R y := fun y hy => by
    obtain ⟨row, hr, rfl⟩ := List.mem_map.1 hy
    exact dotK_R (F := ⟨mkD p m mo, r⟩) r.toOk _ _ _
  have hdot : ∀ i y z, i < L.length → IL y (L.getD i []) → ∀ zl : List Int, zl.length = n → IL z zl → Pure prog n_ref04_Dot [.agg [I p, I m, mv], y, z] (I (dotK (mkD p m mo) (L.getD i []) zl n)) := fun i y z hi hy zl hzl hz => by
    have h1 := hM.len hi
    have := s_refDot r hmv2 hy hz (by omega) (by omega)
    rw [h1, hzl, Nat.min_self, hfp.1.dp, hfp.1.dm] at this
    exact this
  have sm2 : ∀ i, i < L.length → dotK (mkD p m mo) (L.getD i []) (solX (mkD p m mo) L (prodL (mkD p m mo) L x n) n) n = (prodL (mkD p m mo) L x n).getD i 0 := fun i hi => by
    rw [hbg i hi]; exact sm2 i hi
  have sm1 : ¬ ∃ i, (elimA (mkD p m mo) L (prodL (mkD p m mo) L x n) n).pv.length ≤ i ∧ i < L.length ∧ ((elimA (mkD p m mo) L (prodL (mkD p m mo) L x n) n).L.getD i []).getD n 0 ≠ 0 := fun ⟨i, h1, h2, h3⟩ => h3 (sm1 i h1 h2)
  have sm3 : ∀ j, j ∉ (elim (mkD p m mo) L n).pv → (solX (mkD p m mo) L (prodL (mkD p m mo) L x n) n).getD j 0 = 0 := sm3
  have hsXl : (solX (mkD p m mo) L (prodL (mkD p m mo) L x n) n).length = n := solK_len ..
  simp [p4, l41, hv.len]
  refine awp_for L.length (fun k fr' h' => Own 1 g h' (fr' 7) k (ints ((prodL (mkD p m mo) L x n).take k)) ∧ fr' 50 = I k) ⟨by simpa [ints_nil] using Own.nils 1 g, by simp⟩ ?_
  intro k fr2 h' hkn hk0 ⟨ow, k50⟩
  have k2 := hk0 2 (by decide)
  have k3 := hk0 3 (by decide)
  have k4 := hk0 4 (by decide)
  have k48 := hk0 48 (by decide)
  have k49 := hk0 49 (by decide)
  simp [p2, p3, p4] at k2 k3 k4 k48 k49
  clear hk0
  by_cases hlt : k < L.length
  · have u1 : IntKind.i64.wrap ((k : Int) + 1) = k + 1 := w64 _ (by omega)
    obtain ⟨pa, row, hpa, hpl, hrow⟩ := hv.rd hlt
    have hd := hdot k _ _ hlt hrow x hxn hx
    rw [← hbg k hlt] at hd
    have htk := take_getD (l := prodL (mkD p m mo) L x n) (d := 0) (k := k) (by omega)
    rw [htk, ints_append]
    generalize (prodL (mkD p m mo) L x n).getD k 0 = y at *
    obtain ⟨_, _, _, l3'⟩ := ld3_at (ow.kp _ _ g3)
    simp [k2, k3, k48, k49, k50, hlt, hpa, hpl, l3']
    refine hd.call ?_
    simp
    intro b59 hb59
    refine ow.app1 (m := 1) hb59 (by simp) (by omega) fun v' h3 o3 => ?_
    simp [k50, u1, hlt]
    exact o3
  have hkL : k = L.length := by omega
  subst hkL
  rw [List.take_of_length_le (by omega)] at ow
  simp [k49, k50]
  subst hC
  unfold c_law09_MatrixSolvable_5
  generalize hC : c_law09_MatrixSolvable_6 = C6
  have hgil : gl L.length (ints (prodL (mkD p m mo) L x n)) = gil (prodL (mkD p m mo) L x n) := by unfold gil; rw [hbl]
  obtain ⟨hsub, hfz⟩ := ow.frz (Kp.refl g)
  rw [hgil] at hfz
  have hbI := gil_IL (prodL (mkD p m mo) L x n)
  have q1 := s_Solve (p := p) (m := m) hmv hml (c := n) hv hs hbI (by omega)
  have hvE : vecE p m mo n L (prodL (mkD p m mo) L x n) = 0 := by
    rw [vecE, if_neg (by simpa using he), if_neg (by rw [hbl]; omega)]
    unfold entE
    rw [if_pos hbR]
  have hsE : solE p m mo n L (prodL (mkD p m mo) L x n) = 0 := by
    rw [solE, if_neg (by rw [hvE]; omega), Int.toNat_natCast, if_neg sm1]
  unfold solR at q1
  rw [if_pos hsE, Int.toNat_natCast] at q1
  have hyI : IL (.fs n (ints (solX (mkD p m mo) L (prodL (mkD p m mo) L x n) n))) (solX (mkD p m mo) L (prodL (mkD p m mo) L x n) n) := by
    have := IL.fs (solX (mkD p m mo) L (prodL (mkD p m mo) L x n) n)
    rwa [hsXl] at this
  clear sm1 hvE hsE hgil
  generalize solX (mkD p m mo) L (prodL (mkD p m mo) L x n) n = X at *
  generalize prodL (mkD p m mo) L x n = b at *
  generalize AV.fs n (ints X) = YV at *
  generalize gil b = BV at *
  simp
  refine ⟨g, [BV], hsub, ⟨by simpa using hfz, trivial⟩, ?_⟩
  clear hsub hfz ow
  simp [updL, k3, k4, l3, l4]
  refine q1.call ?_
  simp
  refine awp_gen [3, 4, 7, 10, 11] fun fr3 hsl => ?_
  have p3 := hsl 3 (by simp)
  have p4 := hsl 4 (by simp)
  have p7 := hsl 7 (by simp)
  have p10 := hsl 10 (by simp)
  have p11 := hsl 11 (by simp)
  simp [k3, k4] at p3 p4 p7 p10 p11
  clear hsl k2 k3 k4 k48 k49 k50
  obtain ⟨CV, PV, hcr, hCM, hPI, hcc, hco, hpo1⟩ := canR_ok he hM r
  have q2 := s_Canonical (p := p) (m := m) hmv hml (c := n) hv hs
  rw [hcr] at q2
  have hst5 := fun h b R => st_box2 (h := h) (b := b) (n := n) (R := R) hcc hco
  subst hC
  unfold c_law09_MatrixSolvable_6
  generalize hC : c_law09_MatrixSolvable_7 = C7
  simp [p3, p4, l3, l4]
  refine q2.call ?_
  simp [hst5]
  intro b12 hb12
  have kk := (Kp.refl g).new hb12 [I n, CV]
  have g3 := kk _ _ g3
  have g4 := kk _ _ g4
  have hk := hk.trans kk
  clear kk hb12 l3 l4 l40 l41
  generalize hset g b12 [I n, CV] = G at *
  obtain ⟨_, _, _, l3⟩ := ld3_at g3
  have l40 := lq_fst g4
  have l41 := lq_snd g4
  have hyo := hyI.len
  rw [hsXl] at hyo
  subst hC
  unfold c_law09_MatrixSolvable_7
  generalize hC : c_law09_MatrixSolvable_8 = C8
  simp [p4, p10, p11, l40, hyo]
  subst hC
  unfold c_law09_MatrixSolvable_8
  generalize hC : c_law09_MatrixSolvable_9 = C9
  simp [p4, l41, hv.len]
  refine awp_for L.length (fun k fr' h' => h' = G ∧ fr' 92 = I k) ⟨rfl, by simp⟩ ?_
  intro k fr4 h4 hkn hk0 ⟨hh, k92⟩
  subst hh
  have k3 := hk0 3 (by decide)
  have k7 := hk0 7 (by decide)
  have k10 := hk0 10 (by decide)
  have k13 := hk0 13 (by decide)
  have k90 := hk0 90 (by decide)
  have k91 := hk0 91 (by decide)
  simp [p3, p7, p10] at k3 k7 k10 k13 k90 k91
  clear hk0
  by_cases hlt : k < L.length
  · have u1 : IntKind.i64.wrap ((k : Int) + 1) = k + 1 := w64 _ (by omega)
    obtain ⟨pa, row, hpa, hpl, hrow⟩ := hv.rd hlt
    have hd := hdot k _ _ hlt hrow X hsXl hyI
    rw [sm2 k hlt] at hd
    have hib := hbI.iadr (i := k) ⟨by omega, by omega⟩
    rw [Int.toNat_natCast] at hib
    have hldb := fun h' => ld_ints (h := h') (l := b) (k := k) (by omega)
    generalize b.getD k 0 = y at *
    simp [k3, k7, k10, k90, k91, k92, hlt, hpa, hpl, hib, hldb, l3]
    refine hd.call ?_
    simp [k92, u1, hlt]
  have hkL : k = L.length := by omega
  simp [k91, k92, hkL]
  subst hC
  unfold c_law09_MatrixSolvable_9
  generalize hC : c_law09_MatrixSolvable_10 = C10
  have hpl := pivL_len (mkD p m mo) L n
  have hplg := fun i => pv_get (D := mkD p m mo) (L := L) (n := n) (i := i)
  have hrk : (elim (mkD p m mo) L n).pv.length = rkN (mkD p m mo) L n := rfl
  have hrkn := elim_le2 r hM n
  have hpo := hPI.len
  rw [hpl] at hpo
  generalize pivL (mkD p m mo) L n = PL at *
  generalize rkN (mkD p m mo) L n = rk at *
  generalize (elim (mkD p m mo) L n).pv = pv at *
  simp [k10, hyo]
  refine awp_for n (fun i fr' h' => h' = h4 ∧ fr' 109 = I i) ⟨rfl, by simp⟩ ?_
  intro i fr5 h5 hin hk0 ⟨hh, k109⟩
  subst hh
  have m13 := hk0 13 (by decide)
  have m107 := hk0 107 (by decide)
  have m108 := hk0 108 (by decide)
  simp [k13] at m13 m107 m108
  clear hk0
  by_cases hlt2 : i < n
  · have u1 : IntKind.i64.wrap ((i : Int) + 1) = i + 1 := w64 _ (by omega)
    have hiy := hyI.iadr (i := i) ⟨by omega, by omega⟩
    rw [Int.toNat_natCast] at hiy
    have hldy := fun h' => ld_ints (h := h') (l := X) (k := i) (by omega)
    have hz := sm3 i
    generalize X.getD i 0 = y at *
    simp [m13, m107, m108, k109, hlt2, hiy, hldy, hpo]
    refine awp_for rk (fun q fr' h' => h' = h5 ∧ fr' 118 = I q ∧ ∃ β : Bool, fr' 19 = B β ∧ (y = 0 → β = true) ∧ ∀ q', q' < q → pvF pv q' = i → β = true) ⟨rfl, by simp, decide (y = 0), by simp, by simp, fun q' h => by omega⟩ ?_
    intro q fr6 h6 hqn hk0 ⟨hh, k118, β, k19, hb1, hb2⟩
    subst hh
    have z17 := hk0 17 (by decide)
    have z109 := hk0 109 (by decide)
    have z116 := hk0 116 (by decide)
    have z117 := hk0 117 (by decide)
    simp [k109] at z17 z109 z116 z117
    clear hk0
    by_cases hlt3 : q < rk
    · have u2 : IntKind.i64.wrap ((q : Int) + 1) = q + 1 := w64 _ (by omega)
      have hpi := hPI.iadr (i := q) ⟨by omega, by omega⟩
      rw [Int.toNat_natCast] at hpi
      have hpd := fun h' => ld_ints (h := h') (l := PL) (k := q) (by omega)
      rw [hplg q (by omega)] at hpd
      have hb3 : ∀ β' : Bool, (β = true → β' = true) → (pvF pv q = i → β' = true) → ∀ q', q' < q + 1 → pvF pv q' = i → β' = true := fun β' h1 h2 q' h3 h4 => by
        by_cases e : q' = q
        · subst e; exact h2 h4
        · exact h1 (hb2 q' (by omega) h4)
      generalize pvF pv q = at' at *
      cases β
      · have hy0 : ¬ y = 0 := fun h => by simpa using hb1 h
        have := hb3 (decide (at' = i)) (by simp) (by simp)
        have e0 : ((at' : Int) = (i : Int)) = (at' = i) := propext ⟨fun h => by omega, fun h => by omega⟩
        simp [z116, z117, k118, hlt3, hpi, hpd, k19, z17, u2, hy0]
        by_cases e : at' = i
        · exact .inr (by omega)
        · exact .inl ⟨by omega, fun q' h1 h2 => e (of_decide_eq_true (this q' h1 h2))⟩
      · have := hb3 true (by simp) (by simp)
        simp [z116, z117, k118, hlt3, hpi, hpd, k19, z17, u2]
    · have hqr : q = rk := by omega
      have hβ : β = true := by
        by_cases hmem : i ∈ pv
        · obtain ⟨j, hj, ej⟩ := List.mem_iff_getElem.1 hmem
          exact hb2 j (by omega) (by simp [pvF, List.getD, hj, ej])
        · exact hb1 (hz hmem)
      subst hβ
      simp [z117, k118, hqr, k19, z109, u1, hlt2]
  · have : i = n := by omega
    simp [m108, k109, this]
    subst hC
    simp
    exact ⟨_, hk.sub, .id _, rfl⟩
end Go.AM.Ytmihmgnjnedfcab
end

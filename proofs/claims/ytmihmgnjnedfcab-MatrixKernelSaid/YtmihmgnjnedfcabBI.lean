import Derived.Test.YtmihmgnjnedfcabBH
import Derived.Test.YtmihmgnjnedfcabBB

section
/- Parts that the laws of chapter 9 share. -/
set_option maxRecDepth 100000
set_option linter.unusedSimpArgs false
set_option linter.unusedVariables false
namespace Go.AM.Ytmihmgnjnedfcab
open Go Go.AM
attribute [local simp ↓] awp_seq awp_reg awp_skip awp_cond' awp_block awp_exit awp_ret awp_fz thenW_normal thenW_exit thenW_ret inBlk_normal inBlk_exit inBlk_ret aops_cons' contA_ap aops_nil e_mv e_guard' e_pick' e_ld' e_app e_cpy e_st' e_call callW_f updO_some updO_none e_bin' e_isnil' e_fadr' e_iadr' e_iarr' e_len' e_build' e_mkf' e_nc' e_not' e_neg' e_cvt' e_slc' e_fld' e_ext' e_min' e_eqs' e_new e_box e_mkl e_mks
attribute [local simp] upd_apply ev_t ev_k ev_f binA_add binA_sub binA_mul binA_quo binA_rem binA_eql binA_neq binA_lss binA_leq binA_gtr binA_geq det mem frame0 keeps_nil iadrA_sl fadrA_ref fadrA_fp ldv_agg ldv_one cells_base hset_same hset_hset lenA_fs lenA_sl lenA_nils zeros_ints ints_length one_base one_nilp one_nils one_ref one_sl one_fp one_fs one_fn gl_one resA resOf bound natOf afill splice AV.cells cells_agg bindR_some condR_true condR_false guardR_tup guardR_true guardR_true' guardR_false guardR_false' allocW_some pickA_true pickA_false
open Go.FM

theorem canR_ok {p m : Int} {mo : List Int} {n : Nat} {L : List (List Int)} (he : openE p m mo [((n : Int), L)] = 0) (hM : Mat (mkD p m mo) n L) (r : Fd (mkD p m mo)) : ∃ CV PV, canR p m mo n L = .tup [.agg [I n, CV], PV, I 0] ∧ ML CV (canL (mkD p m mo) L n) ∧ IL PV (pivL (mkD p m mo) L n) ∧ CV.cells = [CV] ∧ one CV = true ∧ one PV = true := by
  have hcl := canL_len0 r hM n
  refine ⟨_, _, by unfold canR; rw [if_pos he, Int.toNat_natCast], ?_, gil_IL _, rfl, rfl, (gil_IL _).one⟩
  rw [← hcl]; exact ML_fs _
theorem canR_bad {p m : Int} {mo : List Int} {c : Int} {L : List (List Int)} (he : openE p m mo [(c, L)] ≠ 0) : canR p m mo c L = .tup [.agg [I 0, .nils], .nils, I (openE p m mo [(c, L)])] := by
  unfold canR; rw [if_neg he]
theorem st_box2 {h : Hp} {b : Nat} {n : Int} {cv : AV} {R : AV → Hp → Prop} (h1 : cv.cells = [cv]) (h2 : one cv = true) : stR (.ref b 0) (.agg [I n, cv]) 2 (hset h b [I 0, .nils]) R = R (.tup []) (hset h b [I n, cv]) :=
  st_box (cs := [I 0, .nils]) (cs' := [I n, cv]) rfl rfl (by show (one (I n) && (one cv && true)) = true; rw [h2]; rfl)
/-- A matrix over the field has no error. -/
theorem openE_mat {p m : Int} {mo : List Int} {n : Nat} {L : List (List Int)} (hf : FieldP p m mo) (hn : n ≤ 256) (hl : L.length ≤ 256) (hM : Mat (mkD p m mo) n L) : openE p m mo [((n : Int), L)] = 0 := by
  unfold openE
  rw [if_pos hf]
  have : chkE (mkD p m mo) n L = 0 := by
    unfold chkE
    rw [if_neg (by omega), if_neg (fun hh => hh fun row hr => by rw [(hM row hr).1]), if_pos fun row hr x hx => (hM row hr).2 x hx]
  simp only [chkAll]
  rw [if_neg (by simpa using this)]
theorem mat_sm {D : Ds} {n : Nat} {L : List (List Int)} (hn : n ≤ 256) (hl : L.length ≤ 256) (hM : Mat D n L) : MSm L := ⟨by omega, fun row hr => by rw [(hM row hr).1]; omega⟩
theorem pv_get {D : Ds} {L : List (List Int)} {n i : Nat} (hi : i < (elim D L n).pv.length) : (pivL D L n).getD i 0 = (pvF (elim D L n).pv i : Nat) := map_getD' Int.ofNat (elim D L n).pv i 0 0 hi
/-- What a canonical matrix is. -/
structure Rd (D : Ds) (CL : List (List Int)) (rk n : Nat) (pv : List Nat) : Prop where
  len : CL.length = rk
  pvl : pv.length = rk
  le : rk ≤ n
  mat : Mat D n CL
  lt : ∀ i, i < rk → pvF pv i < n
  mono : ∀ i j, i < j → j < rk → pvF pv i < pvF pv j
  unit : ∀ i j, i < rk → j < rk → (CL.getD i []).getD (pvF pv j) 0 = if i = j then 1 else 0
  zero : ∀ i j, i < rk → j < pvF pv i → (CL.getD i []).getD j 0 = 0
theorem rd_of {D : Ds} (r : Fd D) {n : Nat} {L : List (List Int)} (hM : Mat D n L) : Rd D (canL D L n) (rkN D L n) n (elim D L n).pv :=
  ⟨canL_len0 r hM n, rfl, elim_le2 r hM n, canL_mat0 r hM n, fun i hi => can_lt (F := ⟨D, r⟩) hM n hi, fun i j h1 h2 => can_mono (F := ⟨D, r⟩) hM n h1 h2,
   fun i j h1 h2 => can_unit (F := ⟨D, r⟩) hM n h1 h2, fun i j h1 h2 => can_zero (F := ⟨D, r⟩) hM n h1 h2⟩
end Go.AM.Ytmihmgnjnedfcab
end

section
/- Codes of the program, as the conversion gives them. -/
set_option maxRecDepth 100000
namespace Go.AM.Ytmihmgnjnedfcab
open Go Go.AM
-- law09_MatrixKernel
abbrev c_law09_MatrixKernelL1_3 : SC := (.reg [o 76 (.bin .add (.t 67) (ki 1)), o 67 (.mv (.t 76))])
abbrev c_law09_MatrixKernelL1_2 : SC := .seq (.block 3 (.seq (.reg [o 69 (.iadr (.t 65) (.t 67) 1), o 70 (.ld (.t 69) 1 false), o 12 (.mv (.t 70))]) (.seq (.reg [o 71 (.ld (.t 2) 3 true), o 72 (.mv (.t 10)), o 73 (.mv (.t 12)), o 74 (.call (.f n_ref04_Dot) [.t 71, .t 72, .t 73]), o 75 (.bin .neq (.t 74) (ki 0))]) (.cond (.t 75) (.seq (.reg [o 4 (.mv (kb false))]) .ret) .skip)))) c_law09_MatrixKernelL1_3
abbrev c_law09_MatrixKernelL1_1 : SC := .seq (.cond (.t 68) .skip (.exit 2)) c_law09_MatrixKernelL1_2
abbrev c_law09_MatrixKernelL1_0 : SC := .seq (.reg [o 68 (.bin .lss (.t 67) (.t 66))]) c_law09_MatrixKernelL1_1
abbrev c_law09_MatrixKernelL0_3 : SC := (.reg [o 77 (.bin .add (.t 60) (ki 1)), o 60 (.mv (.t 77))])
abbrev c_law09_MatrixKernelL0_2 : SC := .seq (.block 1 (.seq (.reg [o 62 (.iadr (.t 58) (.t 60) 1), o 63 (.ld (.t 62) 1 false), o 10 (.mv (.t 63))]) (.seq (.reg [o 64 (.fadr (.t 3) 1), o 65 (.ld (.t 64) 1 false), o 66 (.len (.t 65)), o 67 (.mv (ki 0))]) (.block 2 (.loop c_law09_MatrixKernelL1_0))))) c_law09_MatrixKernelL0_3
abbrev c_law09_MatrixKernelL0_1 : SC := .seq (.cond (.t 61) .skip (.exit 0)) c_law09_MatrixKernelL0_2
abbrev c_law09_MatrixKernelL0_0 : SC := .seq (.reg [o 61 (.bin .lss (.t 60) (.t 59))]) c_law09_MatrixKernelL0_1
abbrev c_law09_MatrixKernel_9 : SC := .ret
abbrev c_law09_MatrixKernel_8 : SC := .seq (.reg [o 84 (.mv (.t 14)), o 85 (.bin .eql (.t 84) (ki 0)), o 86 (.mv (.t 85)), og 86 true 0 87 (.mv (.t 13)), og 86 true 0 88 (.fadr (.t 5) 1), og 86 true 0 89 (.ld (.t 88) 1 false), og 86 true 0 90 (.len (.t 89)), og 86 true 0 91 (.bin .add (.t 87) (.t 90)), og 86 true 0 92 (.fadr (.t 3) 0), og 86 true 0 93 (.ld (.t 92) 1 false), og 86 true 0 94 (.bin .eql (.t 91) (.t 93)), o 95 (.pick (.t 86) (.t 94) (kb false)), o 4 (.mv (.t 95))]) c_law09_MatrixKernel_9
abbrev c_law09_MatrixKernel_7 : SC := .seq (.reg [o 79 (.ld (.t 2) 3 true), o 80 (.ld (.t 3) 2 true), o 81 (.call (.f n_matrix_Rank) [.t 79, .t 80]), o 78 (.mv (.t 81)), o 82 (.ext (.t 78) 0), o 83 (.ext (.t 78) 1), o 13 (.mv (.t 82)), o 14 (.mv (.t 83))]) c_law09_MatrixKernel_8
abbrev c_law09_MatrixKernel_6 : SC := .seq (.seq (.reg [o 57 (.fadr (.t 5) 1), o 58 (.ld (.t 57) 1 false), o 59 (.len (.t 58)), o 60 (.mv (ki 0))]) (.block 0 (.loop c_law09_MatrixKernelL0_0))) c_law09_MatrixKernel_7
abbrev c_law09_MatrixKernel_5 : SC := .seq (.seq (.reg [o 55 (.mv (.t 6)), o 56 (.bin .neq (.t 55) (ki 0))]) (.cond (.t 56) (.seq (.reg [o 4 (.mv (kb true))]) .ret) .skip)) c_law09_MatrixKernel_6
abbrev c_law09_MatrixKernel_4 : SC := .seq (.seq (.reg [o 46 (.mv (.t 6)), o 47 (.mv (.t 8)), o 48 (.bin .neq (.t 46) (.t 47)), o 49 (.mv (.t 48)), og 49 false 0 50 (.ld (.t 5) 2 true), og 49 false 0 51 (.ld (.t 7) 2 true), og 49 false 0 52 (.call (.f n_ref09_Same) [.t 50, .t 51]), og 49 false 0 53 (.not (.t 52)), o 54 (.pick (.t 49) (kb true) (.t 53))]) (.cond (.t 54) (.seq (.reg [o 4 (.mv (kb false))]) .ret) .skip)) c_law09_MatrixKernel_5
abbrev c_law09_MatrixKernel_3 : SC := .seq (.reg [o 41 (.ld (.t 2) 3 true), o 42 (.ld (.t 3) 2 true), o 43 (.call (.f n_ref09_Kernel) [.t 41, .t 42]), o 40 (.mv (.t 43)), o 44 (.ext (.t 40) 0), o 45 (.ext (.t 40) 1), o 7 (.new [I 0, .nils]), os (.st (.t 7) (.t 44) 2), o 8 (.mv (.t 45))]) c_law09_MatrixKernel_4
abbrev c_law09_MatrixKernel_2 : SC := .seq (.reg [o 35 (.ld (.t 2) 3 true), o 36 (.ld (.t 3) 2 true), o 37 (.call (.f n_matrix_Kernel) [.t 35, .t 36]), o 34 (.mv (.t 37)), o 38 (.ext (.t 34) 0), o 39 (.ext (.t 34) 1), o 5 (.new [I 0, .nils]), os (.st (.t 5) (.t 38) 2), o 6 (.mv (.t 39))]) c_law09_MatrixKernel_3
abbrev c_law09_MatrixKernel_1 : SC := .seq (.seq (.reg [o 15 (.call (.f n_law09_awake) []), o 16 (.not (.t 15)), o 17 (.mv (.t 16)), og 17 false 0 18 (.ld (.t 3) 2 true), og 17 false 0 19 (.call (.f n_ref09_Few) [.t 18, ki 150]), og 17 false 0 20 (.not (.t 19)), o 21 (.pick (.t 17) (kb true) (.t 20)), o 22 (.mv (.t 21)), og 22 false 0 23 (.fadr (.t 3) 0), og 22 false 0 24 (.ld (.t 23) 1 false), og 22 false 0 25 (.bin .gtr (.t 24) (ki 40)), og 22 false 0 26 (.mv (.t 25)), og 26 true 0 27 (.fadr (.t 3) 1), og 26 true 0 28 (.ld (.t 27) 1 false), og 26 true 0 29 (.len (.t 28)), og 26 true 0 30 (.bin .gtr (.t 29) (ki 0)), og 22 false 0 31 (.pick (.t 26) (.t 30) (kb false)), o 32 (.pick (.t 22) (kb true) (.t 31))]) (.cond (.t 32) (.seq (.reg [o 33 (.call (.f n_law09_awake) []), o 4 (.mv (.t 33))]) .ret) .skip)) c_law09_MatrixKernel_2
abbrev c_law09_MatrixKernel_0 : SC := .seq (.reg [o 2 (.box (.t 0)), o 3 (.box (.t 1)), o 4 (.mv (kb false))]) c_law09_MatrixKernel_1
theorem cf_law09_MatrixKernel : cfun Go.Proofs.Try.prog md n_law09_MatrixKernel = some ⟨2, 96, c_law09_MatrixKernel_0.erase, [.t 4]⟩ := by kernel_rfl
end Go.AM.Ytmihmgnjnedfcab
end

section
/- Contracts of functions: the reference's Null and Kernel. -/
set_option maxRecDepth 100000
set_option linter.unusedSimpArgs false
set_option linter.unusedVariables false
namespace Go.AM.Ytmihmgnjnedfcab
open Go Go.AM
attribute [local simp ↓] awp_seq awp_reg awp_skip awp_cond' awp_block awp_exit awp_ret awp_fz thenW_normal thenW_exit thenW_ret inBlk_normal inBlk_exit inBlk_ret aops_cons' contA_ap aops_nil e_mv e_guard' e_pick' e_ld' e_app e_cpy e_st' e_call callW_f updO_some updO_none e_bin' e_isnil' e_fadr' e_iadr' e_iarr' e_len' e_build' e_mkf' e_nc' e_not' e_neg' e_cvt' e_slc' e_fld' e_ext' e_min' e_eqs' e_new e_box e_mkl e_mks
attribute [local simp] upd_apply ev_t ev_k ev_f binA_add binA_sub binA_mul binA_quo binA_rem binA_eql binA_neq binA_lss binA_leq binA_gtr binA_geq det mem frame0 keeps_nil iadrA_sl fadrA_ref fadrA_fp ldv_agg ldv_one cells_base hset_same hset_hset lenA_fs lenA_sl lenA_nils zeros_ints ints_length one_base one_nilp one_nils one_ref one_sl one_fp one_fs one_fn gl_one resA resOf bound natOf afill splice AV.cells cells_agg bindR_some condR_true condR_false guardR_tup guardR_true guardR_true' guardR_false guardR_false' allocW_some pickA_true pickA_false
open Go.FM

/-- Minus one, put in as far as k. -/
def negK (n : Nat) : Nat → List Int
  | 0 => List.replicate n 0
  | k + 1 => (negK n k).set k (-1)
theorem negK_len (n : Nat) : ∀ k, (negK n k).length = n
  | 0 => by simp [negK]
  | k + 1 => by simp only [negK, List.length_set, negK_len]
theorem negK_get (n : Nat) {i : Nat} : ∀ k, i < k → k ≤ n → (negK n k).getD i 0 = -1
  | 0, h, _ => by omega
  | k + 1, h, hk => by
    simp only [negK]
    rw [getD_set]
    by_cases e : i = k
    · subst e; rw [if_pos ⟨rfl, by rw [negK_len]; omega⟩]
    · rw [if_neg (by omega)]; exact negK_get n k (by omega) (by omega)
/-- Where the pivots stand. -/
def leadK (pv : List Nat) (n : Nat) : Nat → List Int
  | 0 => negK n n
  | i + 1 => (leadK pv n i).set (pv.getD i 0) i
theorem leadK_len (pv : List Nat) (n : Nat) : ∀ i, (leadK pv n i).length = n
  | 0 => negK_len n n
  | i + 1 => by simp only [leadK, List.length_set, leadK_len]
theorem leadK_get (pv : List Nat) (n : Nat) {c : Nat} (hc : c < n) : ∀ k, k ≤ pv.length → ((∃ i, i < k ∧ pv.getD i 0 = c) ∧ 0 ≤ (leadK pv n k).getD c 0) ∨ ((∀ i, i < k → pv.getD i 0 ≠ c) ∧ (leadK pv n k).getD c 0 = -1)
  | 0, _ => .inr ⟨fun i hi => by omega, negK_get n n hc (Nat.le_refl n)⟩
  | k + 1, hk => by
    simp only [leadK]
    rw [getD_set]
    by_cases e : c = pv.getD k 0
    · exact .inl ⟨⟨k, by omega, e.symm⟩, by rw [if_pos ⟨e, by rw [leadK_len, ← e]; exact hc⟩]; omega⟩
    · rw [if_neg (fun h => e h.1)]
      rcases leadK_get pv n hc k (by omega) with ⟨⟨i, h1, h2⟩, h3⟩ | ⟨h1, h2⟩
      · exact .inl ⟨⟨i, by omega, h2⟩, h3⟩
      · refine .inr ⟨fun i hi => ?_, h2⟩
        by_cases e2 : i = k
        · rw [e2]; exact Ne.symm e
        · exact h1 i (by omega)
theorem lead_mem {pv : List Nat} {n c : Nat} (hc : c < n) : c ∈ pv ∧ 0 ≤ (leadK pv n pv.length).getD c 0 ∨ c ∉ pv ∧ (leadK pv n pv.length).getD c 0 = -1 := by
  rcases leadK_get pv n hc pv.length (Nat.le_refl _) with ⟨⟨i, h1, h2⟩, h3⟩ | ⟨h1, h2⟩
  · exact .inl ⟨h2 ▸ mem_getD h1, h3⟩
  · refine .inr ⟨fun hm => ?_, h2⟩
    obtain ⟨i, hi, e⟩ := List.mem_iff_getElem.1 hm
    exact h1 i hi (by simp [List.getD, hi, e])

set_option maxHeartbeats 4000000 in
theorem s_Null {D : Ds} (r : Fd D) {mv : AV} (hmv : IL mv D.mo) {v : AV} {L : List (List Int)} (hv : ML v L) {n : Nat} (hM : Mat D n L) (hL : L.length ≤ 256) (hn : n ≤ 256) :
    Pure prog n_ref09_Null [.agg [I D.p, I D.m, mv], v, I n] (cnV D (kerL D L n) n) := by
  refine pure_of cf_ref09_Null rfl fun h => ?_
  have hone := hmv.one
  have hcan := s_refCanon r hmv hv hM (by omega) (by omega) (Nat.le_refl n)
  have rd := rd_of r hM
  have hML := cnV_ML r hM n
  have hpI := gil_IL (pivL D L n)
  have hpl := pivL_len D L n
  have hpv : pivL D L n = up (elim D L n).pv := rfl
  have hpvl : (elim D L n).pv.length = rkN D L n := rfl
  have hkl : kerL D L n = kerK D (canL D L n) (elim D L n).pv n n := rfl
  rw [hkl]
  clear hkl
  generalize cnV D L n = CV at *
  generalize canL D L n = CL at *
  generalize (elim D L n).pv = pv at *
  generalize rkN D L n = rk at *
  rw [hpv] at hpI hpl hcan
  have hpo := hpI.len
  rw [hpl] at hpo
  generalize gil (up pv) = PV at *
  have hn' : (n : Int) ≤ 4294967296 := by omega
  unfold c_ref09_Null_0 c_ref09_Null_1
  generalize hC : c_ref09_Null_2 = C2
  simp [hone]
  intro b3 hb3
  have g3 := hset_same h b3 [I D.p, I D.m, mv]
  have hkg : Kp h (hset h b3 [I D.p, I D.m, mv]) := (Kp.refl h).new hb3 _
  generalize hset h b3 [I D.p, I D.m, mv] = g at *
  obtain ⟨_, _, _, l3⟩ := ld3_at g3
  simp [l3]
  refine hcan.call ?_
  simp
  subst hC
  unfold c_ref09_Null_2 c_ref09_Null_3
  generalize hC : c_ref09_Null_4 = C4
  simp [hn']
  intro b9 hb9
  refine awp_for n (fun k fr' h' => Kp g h' ∧ h' b9 = some (ints (negK n k)) ∧ fr' 10 = I k) ⟨(Kp.refl g).new hb9 _, by rw [hset_same]; rfl, by simp⟩ ?_
  intro k fr1 h1 hkn hk0 ⟨kp1, hb1, k10⟩
  have k2 := hk0 2 (by decide)
  have k3 := hk0 3 (by decide)
  have k7 := hk0 7 (by decide)
  have k8 := hk0 8 (by decide)
  have k9 := hk0 9 (by decide)
  simp at k2 k3 k7 k8 k9
  clear hk0
  by_cases hlt : k < n
  · have u1 : IntKind.i64.wrap ((k : Int) + 1) = k + 1 := w64 _ (by omega)
    have hst := fun R => sr_ints (R := R) (v := -1) hb1 (k := k) (by rw [negK_len]; exact hlt)
    have hsk : negK n (k + 1) = (negK n k).set k (-1) := rfl
    rw [← hsk] at hst
    simp [k2, k9, k10, hlt, hst, u1]
    exact kp1.set hb9 _
  have hkn : k = n := by omega
  subst hkn
  simp [k2, k10]
  subst hC
  unfold c_ref09_Null_4
  generalize hC : c_ref09_Null_5 = C5
  simp
  refine awp_for rk (fun i fr' h' => Kp g h' ∧ h' b9 = some (ints (leadK pv k i)) ∧ fr' 11 = I i) ⟨kp1, hb1, by simp⟩ ?_
  clear hlt k10 hb1 kp1
  intro i fr2 h2 hin hk0 ⟨kp2, hb2, k11⟩
  have m2 := hk0 2 (by decide)
  have m3 := hk0 3 (by decide)
  have m7 := hk0 7 (by decide)
  have m8 := hk0 8 (by decide)
  have m9 := hk0 9 (by decide)
  simp [k2, k3, k7, k8, k9] at m2 m3 m7 m8 m9
  clear hk0
  by_cases hlt : i < rk
  · have u1 : IntKind.i64.wrap ((i : Int) + 1) = i + 1 := w64 _ (by have := rd.le; omega)
    have hpi := hpI.iadr (i := i) ⟨by omega, by omega⟩
    rw [Int.toNat_natCast] at hpi
    have hpd := fun h' => ld_ints (h := h') (l := up pv) (k := i) (by omega)
    have hpg : (up pv).getD i 0 = (pv.getD i 0 : Nat) := map_getD' Int.ofNat pv i 0 0 (by omega)
    have hpb : pv.getD i 0 < k := rd.lt i hlt
    have hst := fun R => sr_ints (R := R) (v := i) hb2 (k := pv.getD i 0) (by rw [leadK_len]; exact hpb)
    have hsk : leadK pv k (i + 1) = (leadK pv k i).set (pv.getD i 0) i := rfl
    rw [← hsk] at hst
    rw [hpg] at hpd
    have hpb' : (pv.getD i 0 : Int) < k := by omega
    generalize pv.getD i 0 = pi at *
    simp [m8, m9, k11, hpo, hlt, hpi, hpd, hpb, hpb', hst, u1]
    exact kp2.set hb9 _
  have hir : i = rk := by omega
  subst hir
  simp [m8, k11, hpo]
  subst hC
  unfold c_ref09_Null_5 c_ref09_Null_6
  generalize hC : c_ref09_Null_7 = C7
  have g3' := kp2 _ _ g3
  simp
  refine awp_for k (fun c fr' h' => GrM h2 h' (fr' 12) (kerK D CL pv k c) ∧ fr' 13 = I c) ⟨by simpa [kerK] using GrM.nils h2, by simp⟩ ?_
  clear hlt k11
  intro c fr3 h3 hcn hk0 ⟨gm, k13⟩
  have z2 := hk0 2 (by decide)
  have z3 := hk0 3 (by decide)
  have z7 := hk0 7 (by decide)
  have z8 := hk0 8 (by decide)
  have z9 := hk0 9 (by decide)
  simp [m2, m3, m7, m8, m9] at z2 z3 z7 z8 z9
  clear hk0
  by_cases hlt : c < k
  · have u1 : IntKind.i64.wrap ((c : Int) + 1) = c + 1 := w64 _ (by omega)
    have hks : kerK D CL pv k (c + 1) = if c ∈ pv then kerK D CL pv k c else kerK D CL pv k c ++ [kvK D CL pv k c pv.length] := rfl
    have hkll := kerK_len D CL pv k c
    rw [hks]
    have hld9 := ld_ints_at (gm.kp _ _ hb2) (k := c) (by rw [leadK_len]; exact hlt)
    have hmem := lead_mem (pv := pv) hlt
    rw [hpvl] at hmem
    generalize (leadK pv k i).getD c 0 = lv at *
    generalize kerK D CL pv k c = KC at *
    unfold c_ref09_NullL2_0 c_ref09_NullL2_1
    generalize hD : c_ref09_NullL2_2 = D2
    rcases hmem with ⟨hm1, hm2⟩ | ⟨hm1, hm2⟩
    · rw [if_pos hm1]
      simp [z2, k13, hlt, z9, hld9, hm2]
      subst hD
      simp [k13, u1, hlt]
      exact gm
    rw [if_neg hm1]
    rw [hm2] at hld9
    simp [z2, k13, hlt, z9, hld9, hn']
    intro b14 hb14
    have gp := gm.new hb14 (List.replicate k 0)
    have st1 := fun R => sr_ints (R := R) (v := 1) gp.ld (k := c) (by simpa using hlt)
    have gp1 := gp.set ((List.replicate k 0).set c 1)
    rw [hset_hset] at gp1 st1
    have hkv0 : kvK D CL pv k c 0 = (List.replicate k 0).set c 1 := rfl
    rw [← hkv0] at gp1 st1
    simp [k13, hlt, st1]
    refine awp_for i (fun q fr2 h2' => GrP h2 h2' (fr3 12) KC b14 (kvK D CL pv k c q) ∧ fr2 15 = I q ∧ fr2 12 = fr3 12) ⟨gp1, by simp, by simp⟩ ?_
    intro q fr4 h4 hqn hk1 ⟨gpi, k15, k12⟩
    have w3 := hk1 3 (by decide)
    have w7 := hk1 7 (by decide)
    have w8 := hk1 8 (by decide)
    have w13 := hk1 13 (by decide)
    have w14 := hk1 14 (by decide)
    simp [z3, z7, z8, k13] at w3 w7 w8 w13 w14
    clear hk1
    by_cases hlt2 : q < i
    · have u2 : IntKind.i64.wrap ((q : Int) + 1) = q + 1 := w64 _ (by have := rd.le; omega)
      obtain ⟨pa, row, hpa, hpl2, hrow⟩ := hML.rd (i := q) (by rw [rd.len]; exact hlt2)
      have hrowl := rd.mat.len (i := q) (by rw [rd.len]; exact hlt2)
      have hia := hrow.iadr (i := c) ⟨by omega, by omega⟩
      rw [Int.toNat_natCast] at hia
      have hld := fun h' => ld_ints (h := h') (l := CL.getD q []) (k := c) (by omega)
      have hpi := hpI.iadr (i := q) ⟨by omega, by omega⟩
      rw [Int.toNat_natCast] at hpi
      have hpd := fun h' => ld_ints (h := h') (l := up pv) (k := q) (by omega)
      have hpg : (up pv).getD q 0 = (pv.getD q 0 : Nat) := map_getD' Int.ofNat pv q 0 0 (by omega)
      have hpb : pv.getD q 0 < k := rd.lt q hlt2
      have hst := fun R => sr_ints (R := R) (v := D.neg ((CL.getD q []).getD c 0)) gpi.ld (k := pv.getD q 0) (by rw [kvK_len]; exact hpb)
      have hsk : kvK D CL pv k c (q + 1) = (kvK D CL pv k c q).set (pv.getD q 0) (D.neg ((CL.getD q []).getD c 0)) := rfl
      rw [← hsk] at hst
      rw [hpg] at hpd
      have gpn := gpi.set (kvK D CL pv k c (q + 1))
      have hneg := s_refNeg r.toRg hmv ((CL.getD q []).getD c 0)
      have hpb' : (pv.getD q 0 : Int) < k := by omega
      obtain ⟨_, _, _, l3'⟩ := ld3_at (gpi.kp _ _ g3')
      generalize D.neg ((CL.getD q []).getD c 0) = ny at *
      generalize (CL.getD q []).getD c 0 = y at *
      generalize CL.getD q [] = ri at *
      generalize pv.getD q 0 = pi at *
      simp [w3, w7, w8, w13, w14, k15, hpo, hlt2, hpi, hpd, l3', hpa, hpl2, hia, hld]
      refine hneg.call ?_
      simp [hpb, hpb', hst, k15, u2, hlt2, k12]
      exact gpn
    · have hil : q = i := by omega
      subst hil
      have ap := fun R b2 hb2 => gpi.app (R := R) (b2 := b2) hb2 (by omega)
      rw [kvK_len] at ap
      simp [w8, k15, hpo, w14, k12]
      intro b71 hb71
      refine ap _ _ hb71 fun v' h5 g5 => ?_
      subst hD
      simp [w13, u1, hlt]
      rw [hpvl]
      exact g5
  · have : c = k := by omega
    subst this
    have hKl := kerK_len D CL pv c c
    have hKM := kerK_mat r.toOk CL pv c c
    have hcan2 := s_refCanon r hmv (ML_gml (kerK D CL pv c c)) hKM (by omega) (by omega) (Nat.le_refl c)
    obtain ⟨v2, hsub, hfz, hv2⟩ := gm.ret (Kp.refl h2)
    generalize kerK D CL pv c c = KC at *
    obtain ⟨_, _, _, l3'⟩ := ld3_at g3'
    simp [z2, k13]
    subst hC
    simp
    refine ⟨h2, [v2], hsub, ⟨by simpa using hfz, trivial⟩, ?_⟩
    subst hv2
    generalize gml KC = w at *
    simp [updL, z2, z3, l3']
    refine hcan2.call ?_
    simp
    exact ⟨_, (hkg.trans kp2).sub, .id _, rfl⟩

noncomputable def rkerR (p m : Int) (mo : List Int) (c : Int) (L : List (List Int)) : AV :=
  if openE p m mo [(c, L)] = 0 then .tup [.agg [I c, cnV (mkD p m mo) (kerL (mkD p m mo) L c.toNat) c.toNat], I 0] else .tup [.agg [I 0, .nils], I (openE p m mo [(c, L)])]

set_option maxHeartbeats 1000000 in
theorem s_refKernel {p m : Int} {mv v : AV} {mo : List Int} (hmv : IL mv mo) (hml : mo.length < 4611686018427387904) {c : Int} {L : List (List Int)} (hv : ML v L) (hs : MSm L) :
    Pure prog n_ref09_Kernel [.agg [I p, I m, mv], .agg [I c, v]] (rkerR p m mo c L) := by
  refine pure_of cf_ref09_Kernel rfl fun h => ?_
  have hone := hmv.one
  have hone2 := hv.one
  unfold c_ref09_Kernel_0 c_ref09_Kernel_1
  generalize hC : c_ref09_Kernel_2 = C2
  simp [hone, hone2]
  intro b2 hb2 b3 hb3 b4 hb4
  obtain ⟨g2, g3, g4, hk, n4⟩ := three_boxes (zs := [I 0, .nils]) hb2 hb3 hb4
  generalize hset (hset (hset h b2 [I p, I m, mv]) b3 [I c, v]) b4 [I 0, .nils] = G at *
  obtain ⟨_, _, _, l2⟩ := ld3_at g2
  have l3 := lq_both g3
  simp [l2, l3]
  refine (s_ref09Check hmv hml hv hs).call ?_
  have l30 := lq_fst g3
  have l31 := lq_snd g3
  unfold rkerR
  by_cases he : openE p m mo [(c, L)] = 0
  · rw [if_pos he]
    obtain ⟨hf, n, rfl, hn, hLn, hM⟩ := openE_one he
    have r := hf.fd
    have hmv2 : IL mv (mkD p m mo).mo := hmv
    have hnull := s_Null r hmv2 hv hM hLn hn
    rw [hf.1.dp, hf.1.dm] at hnull
    rw [Int.toNat_natCast, he]
    have hor : cnV (mkD p m mo) (kerL (mkD p m mo) L n) n = .nils ∨ ∃ k cl, cnV (mkD p m mo) (kerL (mkD p m mo) L n) n = .fs k cl := by
      unfold cnV; split
      · exact .inl rfl
      · exact .inr ⟨_, _, rfl⟩
    generalize cnV (mkD p m mo) (kerL (mkD p m mo) L n) n = nv at *
    subst hC
    rcases hor with rfl | ⟨k, cl, rfl⟩
    · have st := fun R => sr_all (R := R) (cs' := [I n, .nils]) g4 (n := 2) rfl rfl rfl
      have l4 := lq_both (hset_same G b4 [I n, .nils])
      simp [l2, l30, l31]
      refine hnull.call ?_
      simp [l30, st, l4]
      exact ⟨_, (hk.set n4 _).sub, .id _, rfl⟩
    · have st := fun R => sr_all (R := R) (cs' := [I n, .fs k cl]) g4 (n := 2) rfl rfl rfl
      have l4 := lq_both (hset_same G b4 [I n, .fs k cl])
      simp [l2, l30, l31]
      refine hnull.call ?_
      simp [l30, st, l4]
      exact ⟨_, (hk.set n4 _).sub, .id _, rfl⟩
  · rw [if_neg he]
    generalize openE p m mo [(c, L)] = e at *
    subst hC
    have st0 := fun R => sr_all (R := R) (cs' := [I 0, .nils]) g4 (n := 2) rfl rfl rfl
    rw [hset_id g4] at st0
    have l4 := lq_both g4
    simp [he, st0, l4]
    exact ⟨_, hk.sub, .id _, rfl⟩
end Go.AM.Ytmihmgnjnedfcab
end

section
/- The law MatrixKernel. -/
set_option maxRecDepth 100000
set_option linter.unusedSimpArgs false
set_option linter.unusedVariables false
namespace Go.AM.Ytmihmgnjnedfcab
open Go Go.AM
attribute [local simp ↓] awp_seq awp_reg awp_skip awp_cond' awp_block awp_exit awp_ret awp_fz thenW_normal thenW_exit thenW_ret inBlk_normal inBlk_exit inBlk_ret aops_cons' contA_ap aops_nil e_mv e_guard' e_pick' e_ld' e_app e_cpy e_st' e_call callW_f updO_some updO_none e_bin' e_isnil' e_fadr' e_iadr' e_iarr' e_len' e_build' e_mkf' e_nc' e_not' e_neg' e_cvt' e_slc' e_fld' e_ext' e_min' e_eqs' e_new e_box e_mkl e_mks
attribute [local simp] upd_apply ev_t ev_k ev_f binA_add binA_sub binA_mul binA_quo binA_rem binA_eql binA_neq binA_lss binA_leq binA_gtr binA_geq det mem frame0 keeps_nil iadrA_sl fadrA_ref fadrA_fp ldv_agg ldv_one cells_base hset_same hset_hset lenA_fs lenA_sl lenA_nils zeros_ints ints_length one_base one_nilp one_nils one_ref one_sl one_fp one_fs one_fn gl_one resA resOf bound natOf afill splice AV.cells cells_agg bindR_some condR_true condR_false guardR_tup guardR_true guardR_true' guardR_false guardR_false' allocW_some pickA_true pickA_false
open Go.FM

theorem kerR_ok {p m : Int} {mo : List Int} {n : Nat} {L : List (List Int)} (he : openE p m mo [((n : Int), L)] = 0) (hM : Mat (mkD p m mo) n L) (r : Fd (mkD p m mo)) : ∃ CV, kerR p m mo n L = .tup [.agg [I n, CV], I 0] ∧ ML CV (canL (mkD p m mo) (kerL (mkD p m mo) L n) n) ∧ CV.cells = [CV] ∧ one CV = true := by
  have hcl := canL_len0 r (kerL_mat (F := ⟨mkD p m mo, r⟩) hM) n
  refine ⟨_, by unfold kerR; rw [if_pos he, Int.toNat_natCast], ?_, rfl, rfl⟩
  rw [← hcl]; exact ML_fs _

set_option maxHeartbeats 4000000 in
theorem s_MatrixKernel {p m : Int} {mv v : AV} {mo : List Int} (hmv : IL mv mo) (hml : mo.length < 4611686018427387904) {c : Int} {L : List (List Int)} (hv : ML v L) (hs : MSm L) :
    Pure prog n_law09_MatrixKernel [.agg [I p, I m, mv], .agg [I c, v]] (B true) := by
  refine pure_of cf_law09_MatrixKernel rfl fun h => ?_
  have hone := hmv.one
  have hone2 := hv.one
  unfold c_law09_MatrixKernel_0 c_law09_MatrixKernel_1
  generalize hC : c_law09_MatrixKernel_2 = C2
  simp [hone, hone2]
  intro b2 hb2 b3 hb3
  obtain ⟨g2, g3, hk⟩ := two_boxes (ys := [I c, v]) hb2 hb3
  generalize hset (hset h b2 [I p, I m, mv]) b3 [I c, v] = g at *
  obtain ⟨_, _, _, l2⟩ := ld3_at g2
  have l3 := lq_both g3
  have l30 := lq_fst g3
  have l31 := lq_snd g3
  refine s_awake.call ?_
  simp [l3]
  refine (s_Few hv hs.1 (n := 150) (by omega)).call ?_
  by_cases hf : fewB c L 150 = true
  case neg =>
    have : fewB c L 150 = false := by simpa using hf
    rw [this]
    simp
    refine s_awake.call ?_
    simp
    exact ⟨_, hk.sub, .id _, rfl⟩
  rw [hf]
  have rest : ∀ fr1 : Fr, fr1 2 = .ref b2 0 → fr1 3 = .ref b3 0 → awp prog C2 (fun e fr' h' => (e = AE.normal ∨ e = AE.ret) ∧ RetP h (B true) (fr' 4) h') fr1 g := by
    intro fr1 p2 p3
    subst hC
    unfold c_law09_MatrixKernel_2
    generalize hC : c_law09_MatrixKernel_3 = C3
    have q1 := s_Kernel (p := p) (m := m) hmv hml (c := c) hv hs
    have q2 := s_refKernel (p := p) (m := m) hmv hml (c := c) hv hs
    have q3 := s_Rank (p := p) (m := m) hmv hml (c := c) hv hs
    unfold rkerR at q2
    unfold rankR at q3
    by_cases he : openE p m mo [(c, L)] = 0
    case neg =>
      unfold kerR at q1
      rw [if_neg he] at q1 q2
      generalize openE p m mo [(c, L)] = e at *
      simp [p2, p3, l2, l3]
      refine q1.call ?_
      simp [st_box]
      intro b5 hb5
      have kk := (Kp.refl g).new hb5 [I 0, .nils]
      have g5 := hset_same g b5 [I 0, .nils]
      have g2 := kk _ _ g2
      have g3 := kk _ _ g3
      have hk := hk.trans kk
      clear kk hb5 l2 l3 l30 l31
      generalize hset g b5 [I 0, .nils] = G at *
      obtain ⟨_, _, _, l2⟩ := ld3_at g2
      have l3 := lq_both g3
      subst hC
      unfold c_law09_MatrixKernel_3
      generalize hC : c_law09_MatrixKernel_4 = C4
      simp [p2, p3, l2, l3]
      refine q2.call ?_
      simp [st_box]
      intro b7 hb7
      have kk := (Kp.refl G).new hb7 [I 0, .nils]
      have g7 := hset_same G b7 [I 0, .nils]
      have g5 := kk _ _ g5
      have hk := hk.trans kk
      clear kk hb7 l2 l3
      generalize hset G b7 [I 0, .nils] = H at *
      have l5 := lq_both g5
      have l7 := lq_both g7
      subst hC
      unfold c_law09_MatrixKernel_4
      generalize hC : c_law09_MatrixKernel_5 = C5
      have d1 := s_Same (c := 0) (d := 0) (ML_gml []) (ML_gml []) (by decide) (fun i hi => absurd hi (by simp))
      rw [decide_eq_true ⟨rfl, rfl⟩] at d1
      have e0 : gml [] = .nils := rfl
      rw [e0] at d1
      simp [l5, l7]
      refine d1.call ?_
      simp
      subst hC
      simp [he]
      exact ⟨_, hk.sub, .id _, rfl⟩
    rw [if_pos he] at q2 q3
    obtain ⟨hfp, n, rfl, hn, hLn, hM⟩ := openE_one he
    have r := hfp.fd
    have hKM := kerL_mat (F := ⟨mkD p m mo, r⟩) hM
    obtain ⟨CV, hcr, hCM, hcc, hco⟩ := kerR_ok he hM r
    rw [hcr] at q1
    rw [Int.toNat_natCast] at q2 q3
    have hMLb := cnV_ML r hKM n
    have hbc : (cnV (mkD p m mo) (kerL (mkD p m mo) L n) n).cells = [cnV (mkD p m mo) (kerL (mkD p m mo) L n) n] := cnV_cells ..
    have hbo : one (cnV (mkD p m mo) (kerL (mkD p m mo) L n) n) = true := cnV_one ..
    have rd := rd_of r hKM
    have hsum := (kerL_rank (F := ⟨mkD p m mo, r⟩) hM).1
    have hsum : rkN (mkD p m mo) L n + rkN (mkD p m mo) (kerL (mkD p m mo) L n) n = n := hsum
    have horth : ∀ i k, i < rkN (mkD p m mo) (kerL (mkD p m mo) L n) n → k < L.length → dotK (mkD p m mo) ((canL (mkD p m mo) (kerL (mkD p m mo) L n) n).getD i []) (L.getD k []) n = 0 := fun i k hi hk => kerL_orth (F := ⟨mkD p m mo, r⟩) hM hi hk
    have hmv2 : IL mv (mkD p m mo).mo := hmv
    have hdot : ∀ i k x y, i < rkN (mkD p m mo) (kerL (mkD p m mo) L n) n → k < L.length → IL x ((canL (mkD p m mo) (kerL (mkD p m mo) L n) n).getD i []) → IL y (L.getD k []) → Pure prog n_ref04_Dot [.agg [I p, I m, mv], x, y] (I 0) := fun i k x y hi hk hx hy => by
      have h1 := rd.mat.len (i := i) (by rw [rd.len]; exact hi)
      have h2 := hM.len hk
      have := s_refDot r hmv2 hx hy (by rw [h1]; omega) (by omega)
      rw [h1, h2, Nat.min_self, horth i k hi hk, hfp.1.dp, hfp.1.dm] at this
      exact this
    have d1 := s_Same (c := n) (d := n) hCM hMLb (by rw [rd.len]; have := rd.le; omega) (fun i hi => by rw [rd.mat.len hi]; omega)
    rw [decide_eq_true ⟨rfl, rfl⟩] at d1
    clear hMLb hcr horth
    generalize cnV (mkD p m mo) (kerL (mkD p m mo) L n) n = BV at *
    generalize canL (mkD p m mo) (kerL (mkD p m mo) L n) n = CL at *
    generalize rkN (mkD p m mo) (kerL (mkD p m mo) L n) n = rk at *
    generalize rkN (mkD p m mo) L n = rkL at *
    have hco2 := hCM.len
    rw [rd.len] at hco2
    have hst5 := fun h b R => st_box2 (h := h) (b := b) (n := n) (R := R) hcc hco
    have hst7 := fun h b R => st_box2 (h := h) (b := b) (n := n) (R := R) hbc hbo
    simp [p2, p3, l2, l3]
    refine q1.call ?_
    simp [hst5]
    intro b5 hb5
    have kk := (Kp.refl g).new hb5 [I n, CV]
    have g5 := hset_same g b5 [I n, CV]
    have g2 := kk _ _ g2
    have g3 := kk _ _ g3
    have hk := hk.trans kk
    clear kk hb5 l2 l3 l30 l31
    generalize hset g b5 [I n, CV] = G at *
    obtain ⟨_, _, _, l2⟩ := ld3_at g2
    have l3 := lq_both g3
    subst hC
    unfold c_law09_MatrixKernel_3
    generalize hC : c_law09_MatrixKernel_4 = C4
    simp [p2, p3, l2, l3]
    refine q2.call ?_
    simp [hst7]
    intro b7 hb7
    have kk := (Kp.refl G).new hb7 [I n, BV]
    have g7 := hset_same G b7 [I n, BV]
    have g2 := kk _ _ g2
    have g3 := kk _ _ g3
    have g5 := kk _ _ g5
    have hk := hk.trans kk
    clear kk hb7 l2 l3
    generalize hset G b7 [I n, BV] = H at *
    obtain ⟨_, _, _, l2⟩ := ld3_at g2
    have l3 := lq_both g3
    have l30 := lq_fst g3
    have l31 := lq_snd g3
    have l5 := lq_both g5
    have l51 := lq_snd g5
    have l7 := lq_both g7
    subst hC
    unfold c_law09_MatrixKernel_4
    generalize hC : c_law09_MatrixKernel_5 = C5
    simp [l5, l7]
    refine d1.call ?_
    simp
    subst hC
    unfold c_law09_MatrixKernel_5
    generalize hC : c_law09_MatrixKernel_6 = C6
    simp
    subst hC
    unfold c_law09_MatrixKernel_6
    generalize hC : c_law09_MatrixKernel_7 = C7
    simp [l51, hco2]
    refine awp_for rk (fun i fr' h' => h' = H ∧ fr' 60 = I i) ⟨rfl, by simp⟩ ?_
    intro i fr2 h' hin hk1 ⟨hh, k60⟩
    subst hh
    have k2 := hk1 2 (by decide)
    have k3 := hk1 3 (by decide)
    have k5 := hk1 5 (by decide)
    have k58 := hk1 58 (by decide)
    have k59 := hk1 59 (by decide)
    simp [p2, p3] at k2 k3 k5 k58 k59
    clear hk1
    by_cases hlt : i < rk
    · have u1 : IntKind.i64.wrap ((i : Int) + 1) = i + 1 := w64 _ (by have := rd.le; omega)
      obtain ⟨pa, row, hpa, hpl, hrow⟩ := hCM.rd (i := i) (by rw [rd.len]; exact hlt)
      simp [k58, k59, k60, hlt, hpa, hpl, k3, l31, hv.len]
      refine awp_for L.length (fun j fr' h2 => h2 = h' ∧ fr' 67 = I j) ⟨rfl, by simp⟩ ?_
      intro j fr3 h2 hjn hk1 ⟨hh, k67⟩
      subst hh
      have m2 := hk1 2 (by decide)
      have m10 := hk1 10 (by decide)
      have m60 := hk1 60 (by decide)
      have m65 := hk1 65 (by decide)
      have m66 := hk1 66 (by decide)
      simp [k2, k60] at m2 m10 m60 m65 m66
      clear hk1
      by_cases hlt2 : j < L.length
      · have u2 : IntKind.i64.wrap ((j : Int) + 1) = j + 1 := w64 _ (by omega)
        obtain ⟨pa2, row2, hpa2, hpl2, hrow2⟩ := hv.rd hlt2
        simp [m65, m66, k67, hlt2, hpa2, hpl2, m2, m10, l2]
        refine (hdot i j _ _ hlt hlt2 hrow hrow2).call ?_
        simp [k67, u2, hlt2]
      · have : j = L.length := by omega
        subst this
        simp [m66, k67, m60, u1, hlt]
    · have hir : i = rk := by omega
      subst hir
      simp [k59, k60]
      subst hC
      unfold c_law09_MatrixKernel_7
      generalize hC : c_law09_MatrixKernel_8 = C8
      simp [k2, k3, l2, l3]
      refine q3.call ?_
      simp
      subst hC
      have u3 : IntKind.i64.wrap ((rkL : Int) + (i : Int)) = n := by rw [w64 _ (by omega)]; omega
      simp [k5, k3, l51, l30, hco2, u3]
      exact ⟨_, hk.sub, .id _, rfl⟩
  by_cases h1 : 40 < c
  · by_cases h2 : 0 < L.length
    · simp [l30, l31, hv.len, h1, h2]
      refine s_awake.call ?_
      simp
      exact ⟨_, hk.sub, .id _, rfl⟩
    · simp [l30, l31, hv.len, h1, h2]
      exact rest _ (by simp) (by simp)
  · simp [l30, l31, hv.len, h1]
    exact rest _ (by simp) (by simp)
end Go.AM.Ytmihmgnjnedfcab
end

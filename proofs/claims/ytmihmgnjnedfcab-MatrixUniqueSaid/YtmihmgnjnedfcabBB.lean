import Derived.Test.YtmihmgnjnedfcabBZ
import Derived.Test.YtmihmgnjnedfcabProg
import Derived.KernelRfl
import Derived.Test.YtmihmgnjnedfcabBF

section
/- The functions of the seat by number, and the modes of their calls. -/
namespace Go.AM.Ytmihmgnjnedfcab
abbrev n_law09_MatrixReduced : Nat := 3
abbrev n_law09_MatrixUnique : Nat := 4
abbrev n_law09_MatrixKernel : Nat := 5
abbrev n_law09_MatrixSolve : Nat := 6
abbrev n_law09_MatrixSolvable : Nat := 7
abbrev n_law09_MatrixInverse : Nat := 8
abbrev n_law09_MatrixTransform : Nat := 9
abbrev n_law09_MatrixRing : Nat := 10
abbrev n_law09_MatrixDet : Nat := 11
abbrev n_law09_MatrixPicks : Nat := 12
abbrev n_law52_RegenerateRepairs : Nat := 13
abbrev n_law09_MatrixProducts : Nat := 14
abbrev n_law09_awake : Nat := 15
abbrev n_ref09_Few : Nat := 16
abbrev n_matrix_Canonical : Nat := 17
abbrev n_ref09_Check : Nat := 18
abbrev n_matrix_Check : Nat := 19
abbrev n_ref09_SameInts : Nat := 20
abbrev n_ref09_Combine : Nat := 21
abbrev n_ref09_Pick : Nat := 22
abbrev n_ref04_Order : Nat := 23
abbrev n_ref09_Copy : Nat := 24
abbrev n_ref09_AddTo : Nat := 25
abbrev n_ref09_Same : Nat := 26
abbrev n_matrix_Kernel : Nat := 27
abbrev n_ref09_Kernel : Nat := 28
abbrev n_ref04_Dot : Nat := 29
abbrev n_matrix_Rank : Nat := 30
abbrev n_matrix_Solve : Nat := 31
abbrev n_ref09_Solve : Nat := 32
abbrev n_ref09_Vector : Nat := 33
abbrev n_matrix_Inverse : Nat := 34
abbrev n_ref09_Inverse : Nat := 35
abbrev n_matrix_Det : Nat := 36
abbrev n_ref09_Det : Nat := 37
abbrev n_matrix_Mul : Nat := 38
abbrev n_ref09_SameRows : Nat := 39
abbrev n_ref09_Unit : Nat := 40
abbrev n_matrix_Transform : Nat := 41
abbrev n_ref09_Transform : Nat := 42
abbrev n_matrix_Transpose : Nat := 43
abbrev n_ref04_Is : Nat := 44
abbrev n_ref04_Mul : Nat := 45
abbrev n_ref04_Neg : Nat := 46
abbrev n_matrix_Columns : Nat := 47
abbrev n_ref09_Columns : Nat := 48
abbrev n_matrix_Vec : Nat := 49
abbrev n_ref09_Vec : Nat := 50
abbrev n_matrix_Identity : Nat := 51
abbrev n_ref09_Identity : Nat := 52
abbrev n_regenerate_Repair : Nat := 53
abbrev n_ref52_RepairArgs : Nat := 54
abbrev n_ref52_Repair : Nat := 55
abbrev n_ref09_Mul : Nat := 56
abbrev n_ref09_Transpose : Nat := 57
abbrev n_matrix_Stack : Nat := 58
abbrev n_ref09_Stack : Nat := 59
abbrev n_matrix_Beside : Nat := 60
abbrev n_ref09_Beside : Nat := 61
abbrev n_ref04_Check : Nat := 62
abbrev n_matrix_open : Nat := 63
abbrev n_matrix_canon : Nat := 64
abbrev n_ref09_Entries : Nat := 65
abbrev n_ref04_Add : Nat := 66
abbrev n_slices_Contains_int_int : Nat := 67
abbrev n_field_GF_Neg : Nat := 68
abbrev n_ref09_Null : Nat := 69
abbrev n_matrix_entries : Nat := 70
abbrev n_matrix_clone : Nat := 71
abbrev n_matrix_eliminate : Nat := 72
abbrev n_ref09_Eliminate : Nat := 73
abbrev n_matrix_unit : Nat := 74
abbrev n_ref09_square : Nat := 75
abbrev n_ref09_Rank : Nat := 76
abbrev n_ref09_det : Nat := 77
abbrev n_matrix_vec : Nat := 78
abbrev n_ref04_Digits : Nat := 79
abbrev n_ref04_Value : Nat := 80
abbrev n_regenerate_Check : Nat := 81
abbrev n_regenerate_nodes : Nat := 82
abbrev n_field_New : Nat := 83
abbrev n_regenerate_elements : Nat := 84
abbrev n_regenerate_rows : Nat := 85
abbrev n_regenerate_at : Nat := 86
abbrev n_regenerate_sizes : Nat := 87
abbrev n_field_GF_Pow : Nat := 88
abbrev n_field_GF_Scale : Nat := 89
abbrev n_field_GF_Add : Nat := 90
abbrev n_ref52_Check : Nat := 91
abbrev n_ref52_Nodes : Nat := 92
abbrev n_ref12_List : Nat := 93
abbrev n_ref52_Vector : Nat := 94
abbrev n_ref52_power : Nat := 95
abbrev n_ref09_two : Nat := 96
abbrev n_ref09_Turn : Nat := 97
abbrev n_slices_Concat_int_int : Nat := 98
abbrev n_ref04_prime : Nat := 99
abbrev n_ref04_irreducible : Nat := 100
abbrev n_matrix_check : Nat := 101
abbrev n_slices_Index_int_int : Nat := 102
abbrev n_field_GF_in : Nat := 103
abbrev n_ref09_Canon : Nat := 104
abbrev n_field_GF_Is : Nat := 105
abbrev n_slices_Clone_int_int : Nat := 106
abbrev n_matrix_eliminate_1 : Nat := 107
abbrev n_matrix_eliminate_2 : Nat := 108
abbrev n_field_GF_Mul : Nat := 109
abbrev n_field_GF_Inv : Nat := 110
abbrev n_matrix_eliminate_3 : Nat := 111
abbrev n_matrix_eliminate_4 : Nat := 112
abbrev n_matrix_add : Nat := 113
abbrev n_ref09_scale : Nat := 114
abbrev n_ref04_Inv : Nat := 115
abbrev n_ref09_Canonical : Nat := 116
abbrev n_ref04_digits : Nat := 117
abbrev n_ref04_In : Nat := 118
abbrev n_regenerate_twice : Nat := 119
abbrev n_field_shape : Nat := 120
abbrev n_field_order : Nat := 121
abbrev n_field_generator : Nat := 122
abbrev n_regenerate_powers : Nat := 123
abbrev n_ref04_Pow : Nat := 124
abbrev n_slices_Grow_int_int : Nat := 125
abbrev n_ref04_divides : Nat := 126
abbrev n_field_isPrime : Nat := 127
abbrev n_field_powers : Nat := 128
abbrev n_field_multiply : Nat := 129
abbrev n_field_digitsOf : Nat := 130
abbrev n_field_valueOf : Nat := 131
abbrev n_abi_Type_Align : Nat := 144
abbrev n_maps_unhashableTypeError_Error : Nat := 145
abbrev n_maps_unhashableTypeError_RuntimeError : Nat := 146
abbrev n_field_GF_Order : Nat := 147
abbrev n_abi_Kind_String : Nat := 148
/-- 1: a call in a region that draws leaves the live blocks alone; 2: it only adds to them. -/
def md (f : Nat) : Nat := if f = n_matrix_clone ∨ f = n_matrix_unit ∨ f = n_ref04_digits ∨ f = n_ref04_Digits ∨ f = n_field_GF_Scale ∨ f = n_slices_Clone_int_int ∨ f = n_ref09_Copy then 2 else if f = n_matrix_add ∨ f = n_matrix_eliminate then 0 else 1
noncomputable abbrev prog := Go.Proofs.Try.prog
end Go.AM.Ytmihmgnjnedfcab
end

section
/- Codes of the program, as the conversion gives them. -/
set_option maxRecDepth 100000
namespace Go.AM.Ytmihmgnjnedfcab
open Go Go.AM
-- slices_Index_int_int
abbrev c_slices_Index_int_intL0_3 : SC := (.reg [o 18 (.bin .add (.t 8) (ki 1)), o 8 (.mv (.t 18))])
abbrev c_slices_Index_int_intL0_2 : SC := .seq (.block 1 (.seq (.reg [o 10 (.mv (.t 8)), o 5 (.mv (.t 10))]) (.seq (.reg [o 11 (.mv (.t 1)), o 12 (.mv (.t 0)), o 13 (.mv (.t 5)), o 14 (.iadr (.t 12) (.t 13) 1), o 15 (.ld (.t 14) 1 false), o 16 (.bin .eql (.t 11) (.t 15))]) (.cond (.t 16) (.seq (.reg [o 17 (.mv (.t 5)), o 4 (.mv (.t 17))]) .ret) .skip)))) c_slices_Index_int_intL0_3
abbrev c_slices_Index_int_intL0_1 : SC := .seq (.cond (.t 9) .skip (.exit 0)) c_slices_Index_int_intL0_2
abbrev c_slices_Index_int_intL0_0 : SC := .seq (.reg [o 9 (.bin .lss (.t 8) (.t 7))]) c_slices_Index_int_intL0_1
abbrev c_slices_Index_int_int_3 : SC := .ret
abbrev c_slices_Index_int_int_2 : SC := .seq (.reg [o 4 (.mv (ki (-1)))]) c_slices_Index_int_int_3
abbrev c_slices_Index_int_int_1 : SC := .seq (.seq (.reg [o 6 (.mv (.t 0)), o 7 (.len (.t 6)), o 8 (.mv (ki 0))]) (.block 0 (.loop c_slices_Index_int_intL0_0))) c_slices_Index_int_int_2
abbrev c_slices_Index_int_int_0 : SC := .seq (.reg [o 4 (.mv (ki 0))]) c_slices_Index_int_int_1
theorem cf_slices_Index_int_int : cfun Go.Proofs.Try.prog md n_slices_Index_int_int = some ⟨2, 19, c_slices_Index_int_int_0.erase, [.t 4]⟩ := by kernel_rfl
-- slices_Contains_int_int
abbrev c_slices_Contains_int_int_2 : SC := .ret
abbrev c_slices_Contains_int_int_1 : SC := .seq (.reg [o 5 (.mv (.t 0)), o 6 (.mv (.t 1)), o 7 (.call (.f n_slices_Index_int_int) [.t 5, .t 6]), o 8 (.bin .geq (.t 7) (ki 0)), o 4 (.mv (.t 8))]) c_slices_Contains_int_int_2
abbrev c_slices_Contains_int_int_0 : SC := .seq (.reg [o 4 (.mv (kb false))]) c_slices_Contains_int_int_1
theorem cf_slices_Contains_int_int : cfun Go.Proofs.Try.prog md n_slices_Contains_int_int = some ⟨2, 9, c_slices_Contains_int_int_0.erase, [.t 4]⟩ := by kernel_rfl
-- regenerate_twice
abbrev c_regenerate_twiceL0_3 : SC := (.reg [o 17 (.bin .add (.t 7) (ki 1)), o 7 (.mv (.t 17))])
abbrev c_regenerate_twiceL0_2 : SC := .seq (.block 1 (.seq (.reg [o 9 (.mv (.t 7)), o 10 (.iadr (.t 5) (.t 7) 1), o 11 (.ld (.t 10) 1 false), o 3 (.mv (.t 9)), o 4 (.mv (.t 11))]) (.seq (.reg [o 12 (.mv (.t 0)), o 13 (.mv (.t 3)), o 14 (.slc (.t 12) none (some (.t 13)) none 1), o 15 (.mv (.t 4)), o 16 (.call (.f n_slices_Contains_int_int) [.t 14, .t 15])]) (.cond (.t 16) (.seq (.reg [o 2 (.mv (kb true))]) .ret) .skip)))) c_regenerate_twiceL0_3
abbrev c_regenerate_twiceL0_1 : SC := .seq (.cond (.t 8) .skip (.exit 0)) c_regenerate_twiceL0_2
abbrev c_regenerate_twiceL0_0 : SC := .seq (.reg [o 8 (.bin .lss (.t 7) (.t 6))]) c_regenerate_twiceL0_1
abbrev c_regenerate_twice_3 : SC := .ret
abbrev c_regenerate_twice_2 : SC := .seq (.reg [o 2 (.mv (kb false))]) c_regenerate_twice_3
abbrev c_regenerate_twice_1 : SC := .seq (.seq (.reg [o 5 (.mv (.t 0)), o 6 (.len (.t 5)), o 7 (.mv (ki 0))]) (.block 0 (.loop c_regenerate_twiceL0_0))) c_regenerate_twice_2
abbrev c_regenerate_twice_0 : SC := .seq (.reg [o 2 (.mv (kb false))]) c_regenerate_twice_1
theorem cf_regenerate_twice : cfun Go.Proofs.Try.prog md n_regenerate_twice = some ⟨1, 18, c_regenerate_twice_0.erase, [.t 2]⟩ := by kernel_rfl
-- regenerate_nodes
abbrev c_regenerate_nodesL0_3 : SC := (.reg [o 33 (.bin .add (.t 17) (ki 1)), o 17 (.mv (.t 33))])
abbrev c_regenerate_nodesL0_2 : SC := .seq (.block 1 (.seq (.reg [o 19 (.iadr (.t 15) (.t 17) 1), o 20 (.ld (.t 19) 1 false), o 10 (.mv (.t 20))]) (.seq (.reg [o 21 (.mv (.t 10)), o 22 (.bin .lss (.t 21) (ki 0)), o 23 (.mv (.t 22)), og 23 false 0 24 (.mv (.t 10)), og 23 false 0 25 (.mv (.t 2)), og 23 false 0 26 (.bin .geq (.t 24) (.t 25)), o 27 (.pick (.t 23) (kb true) (.t 26)), o 28 (.mv (.t 27)), og 28 false 0 29 (.mv (.t 10)), og 28 false 0 30 (.mv (.t 3)), og 28 false 0 31 (.bin .eql (.t 29) (.t 30)), o 32 (.pick (.t 28) (kb true) (.t 31))]) (.cond (.t 32) (.seq (.reg [o 8 (.mv (ki 6))]) .ret) .skip)))) c_regenerate_nodesL0_3
abbrev c_regenerate_nodesL0_1 : SC := .seq (.cond (.t 18) .skip (.exit 0)) c_regenerate_nodesL0_2
abbrev c_regenerate_nodesL0_0 : SC := .seq (.reg [o 18 (.bin .lss (.t 17) (.t 16))]) c_regenerate_nodesL0_1
abbrev c_regenerate_nodes_5 : SC := .ret
abbrev c_regenerate_nodes_4 : SC := .seq (.reg [o 8 (.mv (ki 0))]) c_regenerate_nodes_5
abbrev c_regenerate_nodes_3 : SC := .seq (.seq (.reg [o 34 (.mv (.t 0)), o 35 (.call (.f n_regenerate_twice) [.t 34])]) (.cond (.t 35) (.seq (.reg [o 8 (.mv (ki 18))]) .ret) .skip)) c_regenerate_nodes_4
abbrev c_regenerate_nodes_2 : SC := .seq (.seq (.reg [o 15 (.mv (.t 0)), o 16 (.len (.t 15)), o 17 (.mv (ki 0))]) (.block 0 (.loop c_regenerate_nodesL0_0))) c_regenerate_nodes_3
abbrev c_regenerate_nodes_1 : SC := .seq (.seq (.reg [o 11 (.mv (.t 0)), o 12 (.len (.t 11)), o 13 (.mv (.t 1)), o 14 (.bin .neq (.t 12) (.t 13))]) (.cond (.t 14) (.seq (.reg [o 8 (.mv (ki 3))]) .ret) .skip)) c_regenerate_nodes_2
abbrev c_regenerate_nodes_0 : SC := .seq (.reg [o 8 (.mv (ki 0))]) c_regenerate_nodes_1
theorem cf_regenerate_nodes : cfun Go.Proofs.Try.prog md n_regenerate_nodes = some ⟨4, 36, c_regenerate_nodes_0.erase, [.t 8]⟩ := by kernel_rfl
end Go.AM.Ytmihmgnjnedfcab
end

section
/- Contracts of functions: lists. -/
set_option maxRecDepth 100000
set_option linter.unusedSimpArgs false
set_option linter.unusedVariables false
namespace Go.AM.Ytmihmgnjnedfcab
open Go Go.AM
attribute [local simp ↓] awp_seq awp_reg awp_skip awp_cond awp_block awp_exit awp_ret awp_fz thenW_normal thenW_exit thenW_ret inBlk_normal inBlk_exit inBlk_ret aops_cons aops_nil e_mv e_guard e_pick e_ld e_app e_cpy e_st e_call callW_f updO_some updO_none e_bin e_isnil e_fadr e_iadr e_iarr e_len e_build e_mkf e_nc e_not e_neg e_cvt e_slc e_fld e_ext e_min e_eqs e_new e_box e_mkl e_mks
attribute [local simp] upd_apply ev_t ev_k ev_f binA_add binA_sub binA_mul binA_quo binA_rem binA_eql binA_neq binA_lss binA_leq binA_gtr binA_geq det mem frame0 keeps_nil iadrA_sl fadrA_ref fadrA_fp ldv_agg ldv_one cells_base hset_same hset_hset lenA_fs lenA_sl lenA_nils zeros_ints ints_length one_base one_nilp one_nils one_ref one_sl one_fp one_fs one_fn gl_one resA resOf bound natOf afill splice AV.cells cells_agg bindW_some condW_true condW_false condW_dec condW_ndec guardW_tup guardW_true guardW_true' guardW_false guardW_false' allocW_some pickA_true pickA_false
/-- Where a number stands first. -/
def ixOf (l : List Int) (x : Int) : Int := if x ∈ l then (l.idxOf x : Int) else -1

theorem not_mem_take_succ {l : List Int} {x : Int} {k : Nat} (hk : k < l.length) (h : x ∉ l.take k) (hx : x ≠ l[k]) : x ∉ l.take (k + 1) := by
  rw [List.take_succ_eq_append_getElem hk, List.mem_append, List.mem_singleton]
  exact fun h' => h'.elim h hx

theorem idxOf_of {l : List Int} {x : Int} {k : Nat} (hk : k < l.length) (h : x ∉ l.take k) (hx : x = l[k]) : ixOf l x = k := by
  have hm : x ∈ l := by rw [hx]; exact List.getElem_mem hk
  unfold ixOf
  rw [if_pos hm]
  have : l.idxOf x = k := by
    have e : l = l.take k ++ l.drop k := (List.take_append_drop k l).symm
    rw [e, List.idxOf_append, if_neg h, List.drop_eq_getElem_cons hk, ← hx, List.idxOf_cons_self]
    simp; omega
  rw [this]

theorem s_Index {v : AV} {l : List Int} (hv : IL v l) (hl : l.length < 4611686018427387904) (x : Int) : Pure prog n_slices_Index_int_int [v, I x] (I (ixOf l x)) := by
  refine pure_of cf_slices_Index_int_int rfl fun h => ?_
  simp [hv.len]
  refine awp_for l.length (fun k fr' h' => h' = h ∧ fr' 8 = I k ∧ x ∉ l.take k) ⟨rfl, by simp, by simp⟩ ?_
  intro k fr' h' hkn hk ⟨hh, h8, hx⟩
  subst hh
  have k0 := hk 0 (by decide)
  have k1 := hk 1 (by decide)
  have k7 := hk 7 (by decide)
  simp at k0 k1 k7
  clear hk
  by_cases hlt : k < l.length
  · simp (disch := omega) [h8, k7, k0, k1, hlt, hv.iadr, ld_ints, w64]
    split
    · rename_i hxe
      rw [idxOf_of hlt hx hxe]
      exact RetP.same
    · rename_i hxe
      exact not_mem_take_succ hlt hx hxe
  · simp [h8, k7, hlt]
    have : k = l.length := by omega
    subst this
    rw [List.take_length] at hx
    rw [show ixOf l x = -1 by simp [ixOf, hx]]
    exact RetP.same

theorem s_Contains {v : AV} {l : List Int} (hv : IL v l) (hl : l.length < 4611686018427387904) (x : Int) : Pure prog n_slices_Contains_int_int [v, I x] (B (decide (x ∈ l))) := by
  refine pure_of cf_slices_Contains_int_int rfl fun h => ?_
  simp
  refine (s_Index hv hl x).call ?_
  simp
  have : decide (0 ≤ ixOf l x) = decide (x ∈ l) := by
    unfold ixOf
    by_cases hx : x ∈ l
    · simp [hx]
    · simp [hx]
  rw [this]
  exact RetP.same

theorem nodup_take_succ {l : List Int} {k : Nat} (hk : k < l.length) (h : (l.take k).Nodup) (hx : l[k] ∉ l.take k) : (l.take (k + 1)).Nodup := by
  rw [List.take_succ_eq_append_getElem hk, List.nodup_append]
  refine ⟨h, by simp, fun a ha b hb => ?_⟩
  rw [List.mem_singleton] at hb
  intro he
  rw [hb] at he
  exact hx (he ▸ ha)

theorem not_nodup_of {l : List Int} {k : Nat} (hk : k < l.length) (hx : l[k] ∈ l.take k) : ¬ l.Nodup := by
  intro h
  obtain ⟨j, hj, he⟩ := List.mem_iff_getElem.1 hx
  rw [List.length_take] at hj
  rw [List.getElem_take] at he
  have := (List.nodup_iff_pairwise_ne.1 h)
  rw [List.pairwise_iff_getElem] at this
  exact this j k (by omega) hk (by omega) he

theorem s_twice {v : AV} {l : List Int} (hv : IL v l) (hl : l.length < 4611686018427387904) : Pure prog n_regenerate_twice [v] (B (!decide l.Nodup)) := by
  refine pure_of cf_regenerate_twice rfl fun h => ?_
  simp [hv.len]
  refine awp_for l.length (fun k fr' h' => h' = h ∧ fr' 7 = I k ∧ (l.take k).Nodup) ⟨rfl, by simp, by simp⟩ ?_
  intro k fr' h' hkn hk ⟨hh, h7, hx⟩
  subst hh
  have k0 := hk 0 (by decide)
  have k5 := hk 5 (by decide)
  have k6 := hk 6 (by decide)
  simp at k0 k5 k6
  clear hk
  by_cases hlt : k < l.length
  · simp (disch := omega) [h7, k0, k5, k6, hlt, hv.iadr, ld_ints, w64, hv.len, hv.slcN]
    refine (s_Contains (hv.slv (Nat.zero_le k) hkn) (by simp; omega) l[k]).call ?_
    simp (disch := omega) [h7, w64, hlt]
    split
    · rename_i hm
      rw [show (!decide l.Nodup) = true by simpa using not_nodup_of hlt (by simpa using hm)]
      exact RetP.same
    · rename_i hm
      exact nodup_take_succ hlt hx (by simpa using hm)
  · simp [h7, k6, hlt]
    have : k = l.length := by omega
    subst this
    rw [List.take_length] at hx
    rw [show (!decide l.Nodup) = false by simpa using hx]
    exact RetP.same

/-- Whether all are below n and none is but. -/
def inR (l : List Int) (n but : Int) : Bool := l.all fun i => decide (0 ≤ i) && decide (i < n) && decide (i ≠ but)

def nodesE (l : List Int) (many n but : Int) : Int := if (l.length : Int) ≠ many then 3 else if inR l n but = true then (if l.Nodup then 0 else 18) else 6

theorem inR_succ {l : List Int} {n but : Int} {k : Nat} (hlt : k < l.length) (hx : inR (l.take k) n but = true) (h1 : 0 ≤ l[k]) (h2 : l[k] < n) (h3 : l[k] ≠ but) : inR (l.take (k + 1)) n but = true := by
  unfold inR at hx ⊢
  rw [List.take_succ_eq_append_getElem hlt, List.all_append, hx]
  simp [h1, h2, h3]

theorem not_inR {l : List Int} {n but : Int} {k : Nat} (hlt : k < l.length) (hb : l[k] < 0 ∨ n ≤ l[k] ∨ l[k] = but) : ¬ inR l n but = true := by
  intro hr
  have := List.all_eq_true.1 hr l[k] (List.getElem_mem hlt)
  simp at this
  omega

theorem s_nodes {v : AV} {l : List Int} (hv : IL v l) (hl : l.length < 4611686018427387904) (many n but : Int) : Pure prog n_regenerate_nodes [v, I many, I n, I but] (I (nodesE l many n but)) := by
  refine pure_of cf_regenerate_nodes rfl fun h => ?_
  by_cases hm : (l.length : Int) = many
  case neg =>
    simp [hv.len, hm]
    rw [show nodesE l many n but = 3 by simp [nodesE, hm]]
    exact RetP.same
  subst hm
  simp [hv.len]
  refine awp_for l.length (fun k fr' h' => h' = h ∧ fr' 17 = I k ∧ inR (l.take k) n but = true) ⟨rfl, by simp, by simp [inR]⟩ ?_
  intro k fr' h' hkn hk ⟨hh, h17, hx⟩
  subst hh
  have k0 := hk 0 (by decide)
  have k2 := hk 2 (by decide)
  have k3 := hk 3 (by decide)
  have k15 := hk 15 (by decide)
  have k16 := hk 16 (by decide)
  simp at k0 k2 k3 k15 k16
  clear hk
  by_cases hlt : k < l.length
  · have bad : (l[k] < 0 ∨ n ≤ l[k] ∨ l[k] = but) → RetP h' (I (nodesE l l.length n but)) (I 6) h' := by
      intro hb
      rw [show nodesE l l.length n but = 6 by simp [nodesE, not_inR hlt hb]]
      exact RetP.same
    have good := inR_succ hlt hx
    have hg : l.getD k 0 = l[k] := by simp [List.getD, hlt]
    have hld := ld_ints (h := h') hlt
    rw [hg] at hld
    have hia := hv.iadr (i := k) ⟨by omega, by omega⟩
    simp at hia
    generalize l[k] = y at *
    by_cases c1 : y < 0
    · simp (disch := omega) [h17, k0, k2, k3, k15, k16, hlt, hia, hld, w64, c1]
      exact bad (.inl c1)
    by_cases c2 : n ≤ y
    · simp (disch := omega) [h17, k0, k2, k3, k15, k16, hlt, hia, hld, w64, c1, c2]
      exact bad (.inr (.inl c2))
    by_cases c3 : y = but
    · subst c3
      simp (disch := omega) [h17, k0, k2, k3, k15, k16, hlt, hia, hld, w64, c1, c2]
      exact bad (.inr (.inr rfl))
    simp (disch := omega) [h17, k0, k2, k3, k15, k16, hlt, hia, hld, w64, c1, c2, c3]
    exact good (by omega) (by omega) c3
  · simp [h17, k16, hlt, k0]
    have : k = l.length := by omega
    subst this
    rw [List.take_length] at hx
    refine (s_twice hv hl).call ?_
    by_cases hd : l.Nodup
    · simp [hd]
      rw [show nodesE l l.length n but = 0 by simp [nodesE, hx, hd]]
      exact RetP.same
    · simp [hd]
      rw [show nodesE l l.length n but = 18 by simp [nodesE, hx, hd]]
      exact RetP.same
end Go.AM.Ytmihmgnjnedfcab
end

section
/- Codes of the program, as the conversion gives them. -/
set_option maxRecDepth 100000
namespace Go.AM.Ytmihmgnjnedfcab
open Go Go.AM
-- field_order
abbrev c_field_orderL0_3 : SC := (.reg [o 28 (.bin .add (.t 21) (ki 1)), o 21 (.mv (.t 28))])
abbrev c_field_orderL0_2 : SC := .seq (.block 1 (.seq (.reg [o 23 (.mv (.t 5)), o 24 (.mv (.t 0)), o 25 (.bin .mul (.t 23) (.t 24)), o 5 (.mv (.t 25))]) (.seq (.reg [o 26 (.mv (.t 5)), o 27 (.bin .gtr (.t 26) (ki 256))]) (.cond (.t 27) (.seq (.reg [o 4 (.mv (ki 0))]) .ret) .skip)))) c_field_orderL0_3
abbrev c_field_orderL0_1 : SC := .seq (.cond (.t 22) .skip (.exit 0)) c_field_orderL0_2
abbrev c_field_orderL0_0 : SC := .seq (.reg [o 22 (.bin .lss (.t 21) (.t 20))]) c_field_orderL0_1
abbrev c_field_order_5 : SC := .ret
abbrev c_field_order_4 : SC := .seq (.reg [o 29 (.mv (.t 5)), o 4 (.mv (.t 29))]) c_field_order_5
abbrev c_field_order_3 : SC := .seq (.seq (.reg [o 20 (.mv (.t 1)), o 21 (.mv (ki 0))]) (.block 0 (.loop c_field_orderL0_0))) c_field_order_4
abbrev c_field_order_2 : SC := .seq (.reg [o 5 (.mv (ki 1))]) c_field_order_3
abbrev c_field_order_1 : SC := .seq (.seq (.reg [o 6 (.mv (.t 0)), o 7 (.bin .lss (.t 6) (ki 2)), o 8 (.mv (.t 7)), og 8 false 0 9 (.mv (.t 0)), og 8 false 0 10 (.bin .gtr (.t 9) (ki 256)), o 11 (.pick (.t 8) (kb true) (.t 10)), o 12 (.mv (.t 11)), og 12 false 0 13 (.mv (.t 1)), og 12 false 0 14 (.bin .lss (.t 13) (ki 1)), o 15 (.pick (.t 12) (kb true) (.t 14)), o 16 (.mv (.t 15)), og 16 false 0 17 (.mv (.t 1)), og 16 false 0 18 (.bin .gtr (.t 17) (ki 8)), o 19 (.pick (.t 16) (kb true) (.t 18))]) (.cond (.t 19) (.seq (.reg [o 4 (.mv (ki 0))]) .ret) .skip)) c_field_order_2
abbrev c_field_order_0 : SC := .seq (.reg [o 4 (.mv (ki 0))]) c_field_order_1
theorem cf_field_order : cfun Go.Proofs.Try.prog md n_field_order = some ⟨2, 30, c_field_order_0.erase, [.t 4]⟩ := by kernel_rfl
-- field_isPrime
abbrev c_field_isPrimeL0_2 : SC := (.reg [o 9 (.mv (.t 3)), o 10 (.bin .add (.t 9) (ki 1)), o 3 (.mv (.t 10))])
abbrev c_field_isPrimeL0_1 : SC := .seq (.block 1 (.seq (.reg [o 11 (.mv (.t 0)), o 12 (.mv (.t 3)), o 13 (.bin .rem (.t 11) (.t 12)), o 14 (.bin .eql (.t 13) (ki 0))]) (.cond (.t 14) (.seq (.reg [o 2 (.mv (kb false))]) .ret) .skip))) c_field_isPrimeL0_2
abbrev c_field_isPrimeL0_0 : SC := .seq (.seq (.reg [o 4 (.mv (.t 3)), o 5 (.mv (.t 3)), o 6 (.bin .mul (.t 4) (.t 5)), o 7 (.mv (.t 0)), o 8 (.bin .leq (.t 6) (.t 7))]) (.cond (.t 8) .skip (.exit 0))) c_field_isPrimeL0_1
abbrev c_field_isPrime_3 : SC := .ret
abbrev c_field_isPrime_2 : SC := .seq (.reg [o 15 (.mv (.t 0)), o 16 (.bin .geq (.t 15) (ki 2)), o 2 (.mv (.t 16))]) c_field_isPrime_3
abbrev c_field_isPrime_1 : SC := .seq (.seq (.reg [o 3 (.mv (ki 2))]) (.block 0 (.loop c_field_isPrimeL0_0))) c_field_isPrime_2
abbrev c_field_isPrime_0 : SC := .seq (.reg [o 2 (.mv (kb false))]) c_field_isPrime_1
theorem cf_field_isPrime : cfun Go.Proofs.Try.prog md n_field_isPrime = some ⟨1, 17, c_field_isPrime_0.erase, [.t 2]⟩ := by kernel_rfl
-- field_digitsOf
abbrev c_field_digitsOfL0_3 : SC := (.reg [o 25 (.bin .add (.t 13) (ki 1)), o 13 (.mv (.t 25))])
abbrev c_field_digitsOfL0_2 : SC := .seq (.block 1 (.seq (.reg [o 15 (.mv (.t 13)), o 8 (.mv (.t 15))]) (.seq (.reg [o 16 (.mv (.t 7)), o 17 (.mv (.t 8)), o 18 (.mv (.t 0)), o 19 (.mv (.t 1)), o 20 (.bin .rem (.t 18) (.t 19)), o 21 (.iadr (.t 16) (.t 17) 1), os (.st (.t 21) (.t 20) 1)]) (.reg [o 22 (.mv (.t 0)), o 23 (.mv (.t 1)), o 24 (.bin .quo (.t 22) (.t 23)), o 0 (.mv (.t 24))])))) c_field_digitsOfL0_3
abbrev c_field_digitsOfL0_1 : SC := .seq (.cond (.t 14) .skip (.exit 0)) c_field_digitsOfL0_2
abbrev c_field_digitsOfL0_0 : SC := .seq (.reg [o 14 (.bin .lss (.t 13) (.t 12))]) c_field_digitsOfL0_1
abbrev c_field_digitsOf_4 : SC := .ret
abbrev c_field_digitsOf_3 : SC := .seq (.reg [o 26 (.mv (.t 7)), o 6 (.mv (.t 26))]) c_field_digitsOf_4
abbrev c_field_digitsOf_2 : SC := .seq (.seq (.reg [o 11 (.mv (.t 7)), o 12 (.len (.t 11)), o 13 (.mv (ki 0))]) (.block 0 (.loop c_field_digitsOfL0_0))) c_field_digitsOf_3
abbrev c_field_digitsOf_1 : SC := .seq (.reg [o 9 (.mv (.t 2)), o 10 (.mks (.t 9) 1 [I 0]), o 7 (.mv (.t 10))]) c_field_digitsOf_2
abbrev c_field_digitsOf_0 : SC := .seq (.reg [o 6 (.mv (.k .nils))]) c_field_digitsOf_1
theorem cf_field_digitsOf : cfun Go.Proofs.Try.prog md n_field_digitsOf = some ⟨3, 27, c_field_digitsOf_0.erase, [.t 6]⟩ := by kernel_rfl
-- field_valueOf
abbrev c_field_valueOfL0_2 : SC := (.reg [o 12 (.mv (.t 6)), o 13 (.bin .sub (.t 12) (ki 1)), o 6 (.mv (.t 13))])
abbrev c_field_valueOfL0_1 : SC := .seq (.block 1 (.reg [o 14 (.mv (.t 5)), o 15 (.mv (.t 1)), o 16 (.bin .mul (.t 14) (.t 15)), o 17 (.mv (.t 0)), o 18 (.mv (.t 6)), o 19 (.iadr (.t 17) (.t 18) 1), o 20 (.ld (.t 19) 1 false), o 21 (.bin .add (.t 16) (.t 20)), o 5 (.mv (.t 21))])) c_field_valueOfL0_2
abbrev c_field_valueOfL0_0 : SC := .seq (.seq (.reg [o 10 (.mv (.t 6)), o 11 (.bin .geq (.t 10) (ki 0))]) (.cond (.t 11) .skip (.exit 0))) c_field_valueOfL0_1
abbrev c_field_valueOf_4 : SC := .ret
abbrev c_field_valueOf_3 : SC := .seq (.reg [o 22 (.mv (.t 5)), o 4 (.mv (.t 22))]) c_field_valueOf_4
abbrev c_field_valueOf_2 : SC := .seq (.seq (.reg [o 7 (.mv (.t 0)), o 8 (.len (.t 7)), o 9 (.bin .sub (.t 8) (ki 1)), o 6 (.mv (.t 9))]) (.block 0 (.loop c_field_valueOfL0_0))) c_field_valueOf_3
abbrev c_field_valueOf_1 : SC := .seq (.reg [o 5 (.mv (ki 0))]) c_field_valueOf_2
abbrev c_field_valueOf_0 : SC := .seq (.reg [o 4 (.mv (ki 0))]) c_field_valueOf_1
theorem cf_field_valueOf : cfun Go.Proofs.Try.prog md n_field_valueOf = some ⟨2, 23, c_field_valueOf_0.erase, [.t 4]⟩ := by kernel_rfl
-- field_multiply
abbrev c_field_multiplyL1_3 : SC := (.reg [o 92 (.bin .add (.t 54) (ki 1)), o 54 (.mv (.t 92))])
abbrev c_field_multiplyL1_2 : SC := .seq (.block 3 (.seq (.reg [o 56 (.mv (.t 54)), o 12 (.mv (.t 56))]) (.seq (.reg [o 13 (.mv (ki 0))]) (.seq (.seq (.reg [o 57 (.fadr (.t 3) 1), o 58 (.ld (.t 57) 1 false), o 59 (.bin .gtr (.t 58) (ki 1))]) (.cond (.t 59) (.reg [o 60 (.fadr (.t 3) 2), o 61 (.ld (.t 60) 1 false), o 62 (.mv (.t 12)), o 63 (.iadr (.t 61) (.t 62) 1), o 64 (.ld (.t 63) 1 false), o 13 (.mv (.t 64))]) .skip)) (.reg [o 65 (.mv (.t 9)), o 66 (.mv (.t 12)), o 67 (.mv (.t 9)), o 68 (.mv (.t 12)), o 69 (.iadr (.t 67) (.t 68) 1), o 71 (.fadr (.t 3) 0), o 73 (.mv (.t 11)), o 75 (.mv (.t 13)), o 78 (.mv (.t 8)), o 79 (.mv (.t 10)), o 80 (.iadr (.t 78) (.t 79) 1), o 82 (.mv (.t 7)), o 83 (.mv (.t 12)), o 84 (.iadr (.t 82) (.t 83) 1), o 88 (.fadr (.t 3) 0), o 70 (.ld (.t 69) 1 false), o 72 (.ld (.t 71) 1 false), o 74 (.bin .sub (.t 72) (.t 73)), o 76 (.bin .mul (.t 74) (.t 75)), o 77 (.bin .add (.t 70) (.t 76)), o 81 (.ld (.t 80) 1 false), o 85 (.ld (.t 84) 1 false), o 86 (.bin .mul (.t 81) (.t 85)), o 87 (.bin .add (.t 77) (.t 86)), o 89 (.ld (.t 88) 1 false), o 90 (.bin .rem (.t 87) (.t 89)), o 91 (.iadr (.t 65) (.t 66) 1), os (.st (.t 91) (.t 90) 1)]))))) c_field_multiplyL1_3
abbrev c_field_multiplyL1_1 : SC := .seq (.cond (.t 55) .skip (.exit 2)) c_field_multiplyL1_2
abbrev c_field_multiplyL1_0 : SC := .seq (.reg [o 55 (.bin .lss (.t 54) (.t 53))]) c_field_multiplyL1_1
abbrev c_field_multiplyL0_2 : SC := (.reg [o 34 (.mv (.t 10)), o 35 (.bin .sub (.t 34) (ki 1)), o 10 (.mv (.t 35))])
abbrev c_field_multiplyL0_1 : SC := .seq (.block 1 (.seq (.reg [o 36 (.mv (.t 9)), o 37 (.fadr (.t 3) 1), o 38 (.ld (.t 37) 1 false), o 39 (.bin .sub (.t 38) (ki 1)), o 40 (.iadr (.t 36) (.t 39) 1), o 41 (.ld (.t 40) 1 false), o 11 (.mv (.t 41))]) (.seq (.reg [o 42 (.mv (.t 9)), o 43 (.slc (.t 42) (some (ki 1)) none none 1), o 44 (.mv (.t 9)), o 45 (.fadr (.t 3) 1), o 46 (.ld (.t 45) 1 false), o 47 (.bin .sub (.t 46) (ki 1)), o 48 (.slc (.t 44) none (some (.t 47)) none 1), o 49 (.cpy (.t 43) (.t 48) 1)]) (.seq (.reg [o 50 (.mv (.t 9)), o 51 (.iadr (.t 50) (ki 0) 1), os (.st (.t 51) (ki 0) 1)]) (.seq (.reg [o 52 (.mv (.t 9)), o 53 (.len (.t 52)), o 54 (.mv (ki 0))]) (.block 2 (.loop c_field_multiplyL1_0))))))) c_field_multiplyL0_2
abbrev c_field_multiplyL0_0 : SC := .seq (.seq (.reg [o 32 (.mv (.t 10)), o 33 (.bin .geq (.t 32) (ki 0))]) (.cond (.t 33) .skip (.exit 0))) c_field_multiplyL0_1
abbrev c_field_multiply_5 : SC := .ret
abbrev c_field_multiply_4 : SC := .fz [9] (.seq (.reg [o 93 (.mv (.t 9)), o 94 (.fadr (.t 3) 0), o 95 (.ld (.t 94) 1 false), o 96 (.call (.f n_field_valueOf) [.t 93, .t 95]), o 6 (.mv (.t 96))]) c_field_multiply_5)
abbrev c_field_multiply_3 : SC := .seq (.seq (.reg [o 29 (.fadr (.t 3) 1), o 30 (.ld (.t 29) 1 false), o 31 (.bin .sub (.t 30) (ki 1)), o 10 (.mv (.t 31))]) (.block 0 (.loop c_field_multiplyL0_0))) c_field_multiply_4
abbrev c_field_multiply_2 : SC := .seq (.reg [o 26 (.fadr (.t 3) 1), o 27 (.ld (.t 26) 1 false), o 28 (.mks (.t 27) 1 [I 0]), o 9 (.mv (.t 28))]) c_field_multiply_3
abbrev c_field_multiply_1 : SC := .seq (.reg [o 14 (.mv (.t 1)), o 15 (.fadr (.t 3) 0), o 17 (.fadr (.t 3) 1), o 20 (.mv (.t 2)), o 21 (.fadr (.t 3) 0), o 23 (.fadr (.t 3) 1), o 16 (.ld (.t 15) 1 false), o 18 (.ld (.t 17) 1 false), o 22 (.ld (.t 21) 1 false), o 24 (.ld (.t 23) 1 false), om 1 19 (.call (.f n_field_digitsOf) [.t 14, .t 16, .t 18]), om 1 25 (.call (.f n_field_digitsOf) [.t 20, .t 22, .t 24]), o 7 (.mv (.t 19)), o 8 (.mv (.t 25))]) c_field_multiply_2
abbrev c_field_multiply_0 : SC := .seq (.reg [o 3 (.box (.t 0)), o 6 (.mv (ki 0))]) c_field_multiply_1
theorem cf_field_multiply : cfun Go.Proofs.Try.prog md n_field_multiply = some ⟨3, 97, c_field_multiply_0.erase, [.t 6]⟩ := by kernel_rfl
-- field_powers
abbrev c_field_powersL0_2 : SC := (.reg [o 25 (.ld (.t 3) 3 true), o 26 (.mv (.t 9)), o 27 (.mv (.t 2)), o 28 (.call (.f n_field_multiply) [.t 25, .t 26, .t 27]), o 9 (.mv (.t 28))])
abbrev c_field_powersL0_1 : SC := .seq (.block 1 (.seq (.reg [o 29 (.mv (.t 8)), o 30 (.mv (.t 9)), o 31 (.iadr (.t 29) (.t 30) 1), os (.st (.t 31) (kb true) 1)]) (.reg [o 32 (.mv (.t 7)), o 33 (.mv (.t 9)), o 34 (.mkl 1 1 [I 0] [(0, (1, .t 33))]), o 35 (.app (.t 32) (.t 34) 1), o 7 (.mv (.t 35))]))) c_field_powersL0_2
abbrev c_field_powersL0_0 : SC := .seq (.seq (.reg [o 16 (.mv (.t 9)), o 17 (.bin .neq (.t 16) (ki 0)), o 18 (.mv (.t 17)), og 18 true 0 19 (.mv (.t 8)), og 18 true 0 20 (.mv (.t 9)), og 18 true 0 21 (.iadr (.t 19) (.t 20) 1), og 18 true 0 22 (.ld (.t 21) 1 false), og 18 true 0 23 (.not (.t 22)), o 24 (.pick (.t 18) (.t 23) (kb false))]) (.cond (.t 24) .skip (.exit 0))) c_field_powersL0_1
abbrev c_field_powers_6 : SC := .ret
abbrev c_field_powers_5 : SC := .seq (.reg [o 36 (.mv (.t 7)), o 6 (.mv (.t 36))]) c_field_powers_6
abbrev c_field_powers_4 : SC := .seq (.seq (.reg [o 15 (.mv (.t 2)), o 9 (.mv (.t 15))]) (.block 0 (.loop c_field_powersL0_0))) c_field_powers_5
abbrev c_field_powers_3 : SC := .seq (.reg [o 13 (.mv (.t 8)), o 14 (.iadr (.t 13) (ki 1) 1), os (.st (.t 14) (kb true) 1)]) c_field_powers_4
abbrev c_field_powers_2 : SC := .seq (.reg [o 11 (.mv (.t 1)), o 12 (.mks (.t 11) 1 [.base (.bool false)]), o 8 (.mv (.t 12))]) c_field_powers_3
abbrev c_field_powers_1 : SC := .seq (.reg [o 10 (.mkl 1 1 [I 0] [(0, (1, ki 1))]), o 7 (.mv (.t 10))]) c_field_powers_2
abbrev c_field_powers_0 : SC := .seq (.reg [o 3 (.box (.t 0)), o 6 (.mv (.k .nils))]) c_field_powers_1
theorem cf_field_powers : cfun Go.Proofs.Try.prog md n_field_powers = some ⟨3, 37, c_field_powers_0.erase, [.t 6]⟩ := by kernel_rfl
-- field_generator
abbrev c_field_generatorL0_2 : SC := (.reg [o 10 (.mv (.t 5)), o 11 (.bin .add (.t 10) (ki 1)), o 5 (.mv (.t 11))])
abbrev c_field_generatorL0_1 : SC := .seq (.block 1 (.seq (.reg [o 12 (.ld (.t 2) 3 true), o 13 (.mv (.t 1)), o 14 (.mv (.t 5)), o 15 (.call (.f n_field_powers) [.t 12, .t 13, .t 14]), o 6 (.mv (.t 15))]) (.seq (.reg [o 16 (.mv (.t 6)), o 17 (.len (.t 16)), o 18 (.mv (.t 1)), o 19 (.bin .sub (.t 18) (ki 1)), o 20 (.bin .eql (.t 17) (.t 19)), o 21 (.mv (.t 20)), og 21 true 0 23 (.mv (.t 6)), og 21 true 0 24 (.mv (.t 1)), og 21 true 0 25 (.bin .sub (.t 24) (ki 2)), og 21 true 0 26 (.iadr (.t 23) (.t 25) 1), og 21 true 0 28 (.mv (.t 5)), og 21 true 0 22 (.ld (.t 2) 3 true), og 21 true 0 27 (.ld (.t 26) 1 false), og 21 true 1 29 (.call (.f n_field_multiply) [.t 22, .t 27, .t 28]), og 21 true 0 30 (.bin .eql (.t 29) (ki 1)), o 31 (.pick (.t 21) (.t 30) (kb false))]) (.cond (.t 31) (.seq (.reg [o 32 (.mv (.t 6)), o 4 (.mv (.t 32))]) .ret) .skip)))) c_field_generatorL0_2
abbrev c_field_generatorL0_0 : SC := .seq (.seq (.reg [o 7 (.mv (.t 5)), o 8 (.mv (.t 1)), o 9 (.bin .lss (.t 7) (.t 8))]) (.cond (.t 9) .skip (.exit 0))) c_field_generatorL0_1
abbrev c_field_generator_3 : SC := .ret
abbrev c_field_generator_2 : SC := .seq (.reg [o 4 (.mv (.k .nils))]) c_field_generator_3
abbrev c_field_generator_1 : SC := .seq (.seq (.reg [o 5 (.mv (ki 1))]) (.block 0 (.loop c_field_generatorL0_0))) c_field_generator_2
abbrev c_field_generator_0 : SC := .seq (.reg [o 2 (.box (.t 0)), o 4 (.mv (.k .nils))]) c_field_generator_1
theorem cf_field_generator : cfun Go.Proofs.Try.prog md n_field_generator = some ⟨2, 33, c_field_generator_0.erase, [.t 4]⟩ := by kernel_rfl
-- field_shape
abbrev c_field_shapeL0_3 : SC := (.reg [o 45 (.bin .add (.t 33) (ki 1)), o 33 (.mv (.t 45))])
abbrev c_field_shapeL0_2 : SC := .seq (.block 1 (.seq (.reg [o 35 (.iadr (.t 31) (.t 33) 1), o 36 (.ld (.t 35) 1 false), o 4 (.mv (.t 36))]) (.seq (.reg [o 37 (.mv (.t 4)), o 38 (.bin .lss (.t 37) (ki 0)), o 39 (.mv (.t 38)), og 39 false 0 40 (.mv (.t 4)), og 39 false 0 41 (.fadr (.t 1) 0), og 39 false 0 42 (.ld (.t 41) 1 false), og 39 false 0 43 (.bin .geq (.t 40) (.t 42)), o 44 (.pick (.t 39) (kb true) (.t 43))]) (.cond (.t 44) (.seq (.reg [o 2 (.mv (kb false))]) .ret) .skip)))) c_field_shapeL0_3
abbrev c_field_shapeL0_1 : SC := .seq (.cond (.t 34) .skip (.exit 0)) c_field_shapeL0_2
abbrev c_field_shapeL0_0 : SC := .seq (.reg [o 34 (.bin .lss (.t 33) (.t 32))]) c_field_shapeL0_1
abbrev c_field_shape_6 : SC := .ret
abbrev c_field_shape_5 : SC := .seq (.reg [o 2 (.mv (kb true))]) c_field_shape_6
abbrev c_field_shape_4 : SC := .seq (.seq (.reg [o 30 (.fadr (.t 1) 2), o 31 (.ld (.t 30) 1 false), o 32 (.len (.t 31)), o 33 (.mv (ki 0))]) (.block 0 (.loop c_field_shapeL0_0))) c_field_shape_5
abbrev c_field_shape_3 : SC := .seq (.seq (.reg [o 24 (.fadr (.t 1) 2), o 25 (.ld (.t 24) 1 false), o 26 (.len (.t 25)), o 27 (.fadr (.t 1) 1), o 28 (.ld (.t 27) 1 false), o 29 (.bin .neq (.t 26) (.t 28))]) (.cond (.t 29) (.seq (.reg [o 2 (.mv (kb false))]) .ret) .skip)) c_field_shape_4
abbrev c_field_shape_2 : SC := .seq (.seq (.reg [o 17 (.fadr (.t 1) 1), o 18 (.ld (.t 17) 1 false), o 19 (.bin .eql (.t 18) (ki 1))]) (.cond (.t 19) (.seq (.reg [o 20 (.fadr (.t 1) 2), o 21 (.ld (.t 20) 1 false), o 22 (.len (.t 21)), o 23 (.bin .eql (.t 22) (ki 0)), o 2 (.mv (.t 23))]) .ret) .skip)) c_field_shape_3
abbrev c_field_shape_1 : SC := .seq (.seq (.reg [o 5 (.fadr (.t 1) 0), o 6 (.ld (.t 5) 1 false), o 7 (.fadr (.t 1) 1), o 8 (.ld (.t 7) 1 false), o 9 (.call (.f n_field_order) [.t 6, .t 8]), o 10 (.bin .eql (.t 9) (ki 0)), o 11 (.mv (.t 10)), og 11 false 0 12 (.fadr (.t 1) 0), og 11 false 0 13 (.ld (.t 12) 1 false), og 11 false 0 14 (.call (.f n_field_isPrime) [.t 13]), og 11 false 0 15 (.not (.t 14)), o 16 (.pick (.t 11) (kb true) (.t 15))]) (.cond (.t 16) (.seq (.reg [o 2 (.mv (kb false))]) .ret) .skip)) c_field_shape_2
abbrev c_field_shape_0 : SC := .seq (.reg [o 1 (.box (.t 0)), o 2 (.mv (kb false))]) c_field_shape_1
theorem cf_field_shape : cfun Go.Proofs.Try.prog md n_field_shape = some ⟨1, 46, c_field_shape_0.erase, [.t 2]⟩ := by kernel_rfl
-- field_New
abbrev c_field_NewL0_3 : SC := (.reg [o 51 (.bin .add (.t 39) (ki 1)), o 39 (.mv (.t 51))])
abbrev c_field_NewL0_2 : SC := .seq (.block 1 (.seq (.reg [o 41 (.mv (.t 39)), o 42 (.iadr (.t 37) (.t 39) 1), o 43 (.ld (.t 42) 1 false), o 7 (.mv (.t 41)), o 8 (.mv (.t 43))]) (.reg [o 44 (.mv (.t 6)), o 45 (.nc (.t 44)), o 46 (.fadr (.t 45) 5), o 47 (.ld (.t 46) 1 false), o 48 (.mv (.t 8)), o 49 (.mv (.t 7)), o 50 (.iadr (.t 47) (.t 48) 1), os (.st (.t 50) (.t 49) 1)]))) c_field_NewL0_3
abbrev c_field_NewL0_1 : SC := .seq (.cond (.t 40) .skip (.exit 0)) c_field_NewL0_2
abbrev c_field_NewL0_0 : SC := .seq (.reg [o 40 (.bin .lss (.t 39) (.t 38))]) c_field_NewL0_1
abbrev c_field_New_8 : SC := .ret
abbrev c_field_New_7 : SC := .seq (.reg [o 52 (.mv (.t 6)), o 2 (.mv (.t 52)), o 3 (.mv (ki 0))]) c_field_New_8
abbrev c_field_New_6 : SC := .seq (.seq (.reg [o 37 (.mv (.t 5)), o 38 (.len (.t 37)), o 39 (.mv (ki 0))]) (.block 0 (.loop c_field_NewL0_0))) c_field_New_7
abbrev c_field_New_5 : SC := .seq (.reg [o 22 (.fadr (.t 1) 0), o 24 (.fadr (.t 1) 1), o 27 (.fadr (.t 1) 2), o 31 (.mv (.t 4)), o 32 (.mv (.t 5)), o 33 (.mv (.t 4)), o 23 (.ld (.t 22) 1 false), o 25 (.ld (.t 24) 1 false), o 28 (.ld (.t 27) 1 false), o 26 (.mkl 0 1 [] []), o 29 (.app (.t 26) (.t 28) 1), o 30 (.build [I 0, I 0, .nils] [(0, (1, .t 23)), (1, (1, .t 25)), (2, (1, .t 29))]), o 34 (.mks (.t 33) 1 [I 0]), o 35 (.build [I 0, I 0, .nils, I 0, .nils, .nils] [(0, (3, .t 30)), (3, (1, .t 31)), (4, (1, .t 32)), (5, (1, .t 34))]), o 36 (.box (.t 35)), o 6 (.mv (.t 36))]) c_field_New_6
abbrev c_field_New_4 : SC := .seq (.seq (.reg [o 20 (.mv (.t 5)), o 21 (.isnil false (.t 20))]) (.cond (.t 21) (.seq (.reg [o 2 (.mv (.k .nilp)), o 3 (.mv (ki 1))]) .ret) .skip)) c_field_New_5
abbrev c_field_New_3 : SC := .seq (.reg [o 17 (.ld (.t 1) 3 true), o 18 (.mv (.t 4)), o 19 (.call (.f n_field_generator) [.t 17, .t 18]), o 5 (.mv (.t 19))]) c_field_New_4
abbrev c_field_New_2 : SC := .seq (.reg [o 12 (.fadr (.t 1) 0), o 13 (.ld (.t 12) 1 false), o 14 (.fadr (.t 1) 1), o 15 (.ld (.t 14) 1 false), o 16 (.call (.f n_field_order) [.t 13, .t 15]), o 4 (.mv (.t 16))]) c_field_New_3
abbrev c_field_New_1 : SC := .seq (.seq (.reg [o 9 (.ld (.t 1) 3 true), o 10 (.call (.f n_field_shape) [.t 9]), o 11 (.not (.t 10))]) (.cond (.t 11) (.seq (.reg [o 2 (.mv (.k .nilp)), o 3 (.mv (ki 1))]) .ret) .skip)) c_field_New_2
abbrev c_field_New_0 : SC := .seq (.reg [o 1 (.box (.t 0)), o 2 (.mv (.k .nilp)), o 3 (.mv (ki 0))]) c_field_New_1
theorem cf_field_New : cfun Go.Proofs.Try.prog md n_field_New = some ⟨1, 53, c_field_New_0.erase, [.t 2, .t 3]⟩ := by kernel_rfl
-- ref04_Order
abbrev c_ref04_OrderL0_2 : SC := (.reg [o 22 (.mv (.t 4)), o 23 (.bin .add (.t 22) (ki 1)), o 4 (.mv (.t 23))])
abbrev c_ref04_OrderL0_1 : SC := .seq (.block 1 (.seq (.seq (.reg [o 24 (.mv (.t 3)), o 25 (.fadr (.t 1) 0), o 26 (.ld (.t 25) 1 false), o 27 (.bin .quo (ki 256) (.t 26)), o 28 (.bin .gtr (.t 24) (.t 27))]) (.cond (.t 28) (.seq (.reg [o 2 (.mv (ki 0))]) .ret) .skip)) (.reg [o 29 (.mv (.t 3)), o 30 (.fadr (.t 1) 0), o 31 (.ld (.t 30) 1 false), o 32 (.bin .mul (.t 29) (.t 31)), o 3 (.mv (.t 32))]))) c_ref04_OrderL0_2
abbrev c_ref04_OrderL0_0 : SC := .seq (.seq (.reg [o 18 (.mv (.t 4)), o 19 (.fadr (.t 1) 1), o 20 (.ld (.t 19) 1 false), o 21 (.bin .lss (.t 18) (.t 20))]) (.cond (.t 21) .skip (.exit 0))) c_ref04_OrderL0_1
abbrev c_ref04_Order_5 : SC := .ret
abbrev c_ref04_Order_4 : SC := .seq (.reg [o 33 (.mv (.t 3)), o 2 (.mv (.t 33))]) c_ref04_Order_5
abbrev c_ref04_Order_3 : SC := .seq (.seq (.reg [o 4 (.mv (ki 0))]) (.block 0 (.loop c_ref04_OrderL0_0))) c_ref04_Order_4
abbrev c_ref04_Order_2 : SC := .seq (.reg [o 3 (.mv (ki 1))]) c_ref04_Order_3
abbrev c_ref04_Order_1 : SC := .seq (.seq (.reg [o 5 (.fadr (.t 1) 0), o 6 (.ld (.t 5) 1 false), o 7 (.bin .lss (.t 6) (ki 2)), o 8 (.mv (.t 7)), og 8 false 0 9 (.fadr (.t 1) 1), og 8 false 0 10 (.ld (.t 9) 1 false), og 8 false 0 11 (.bin .lss (.t 10) (ki 1)), o 12 (.pick (.t 8) (kb true) (.t 11)), o 13 (.mv (.t 12)), og 13 false 0 14 (.fadr (.t 1) 1), og 13 false 0 15 (.ld (.t 14) 1 false), og 13 false 0 16 (.bin .gtr (.t 15) (ki 8)), o 17 (.pick (.t 13) (kb true) (.t 16))]) (.cond (.t 17) (.seq (.reg [o 2 (.mv (ki 0))]) .ret) .skip)) c_ref04_Order_2
abbrev c_ref04_Order_0 : SC := .seq (.reg [o 1 (.box (.t 0)), o 2 (.mv (ki 0))]) c_ref04_Order_1
theorem cf_ref04_Order : cfun Go.Proofs.Try.prog md n_ref04_Order = some ⟨1, 34, c_ref04_Order_0.erase, [.t 2]⟩ := by kernel_rfl
-- ref04_prime
abbrev c_ref04_primeL0_2 : SC := (.reg [o 7 (.mv (.t 3)), o 8 (.bin .add (.t 7) (ki 1)), o 3 (.mv (.t 8))])
abbrev c_ref04_primeL0_1 : SC := .seq (.block 1 (.seq (.reg [o 9 (.mv (.t 0)), o 10 (.mv (.t 3)), o 11 (.bin .rem (.t 9) (.t 10)), o 12 (.bin .eql (.t 11) (ki 0))]) (.cond (.t 12) (.seq (.reg [o 2 (.mv (kb false))]) .ret) .skip))) c_ref04_primeL0_2
abbrev c_ref04_primeL0_0 : SC := .seq (.seq (.reg [o 4 (.mv (.t 3)), o 5 (.mv (.t 0)), o 6 (.bin .lss (.t 4) (.t 5))]) (.cond (.t 6) .skip (.exit 0))) c_ref04_primeL0_1
abbrev c_ref04_prime_3 : SC := .ret
abbrev c_ref04_prime_2 : SC := .seq (.reg [o 2 (.mv (kb true))]) c_ref04_prime_3
abbrev c_ref04_prime_1 : SC := .seq (.seq (.reg [o 3 (.mv (ki 2))]) (.block 0 (.loop c_ref04_primeL0_0))) c_ref04_prime_2
abbrev c_ref04_prime_0 : SC := .seq (.reg [o 2 (.mv (kb false))]) c_ref04_prime_1
theorem cf_ref04_prime : cfun Go.Proofs.Try.prog md n_ref04_prime = some ⟨1, 13, c_ref04_prime_0.erase, [.t 2]⟩ := by kernel_rfl
-- ref04_digits
abbrev c_ref04_digitsL0_2 : SC := (.reg [o 14 (.mv (.t 8)), o 15 (.bin .add (.t 14) (ki 1)), o 8 (.mv (.t 15))])
abbrev c_ref04_digitsL0_1 : SC := .seq (.block 1 (.seq (.reg [o 16 (.mv (.t 7)), o 17 (.mv (.t 8)), o 18 (.mv (.t 0)), o 19 (.mv (.t 1)), o 20 (.bin .rem (.t 18) (.t 19)), o 21 (.iadr (.t 16) (.t 17) 1), os (.st (.t 21) (.t 20) 1)]) (.reg [o 22 (.mv (.t 0)), o 23 (.mv (.t 1)), o 24 (.bin .quo (.t 22) (.t 23)), o 0 (.mv (.t 24))]))) c_ref04_digitsL0_2
abbrev c_ref04_digitsL0_0 : SC := .seq (.seq (.reg [o 11 (.mv (.t 8)), o 12 (.mv (.t 2)), o 13 (.bin .lss (.t 11) (.t 12))]) (.cond (.t 13) .skip (.exit 0))) c_ref04_digitsL0_1
abbrev c_ref04_digits_4 : SC := .ret
abbrev c_ref04_digits_3 : SC := .seq (.reg [o 25 (.mv (.t 7)), o 6 (.mv (.t 25))]) c_ref04_digits_4
abbrev c_ref04_digits_2 : SC := .seq (.seq (.reg [o 8 (.mv (ki 0))]) (.block 0 (.loop c_ref04_digitsL0_0))) c_ref04_digits_3
abbrev c_ref04_digits_1 : SC := .seq (.reg [o 9 (.mv (.t 2)), o 10 (.mks (.t 9) 1 [I 0]), o 7 (.mv (.t 10))]) c_ref04_digits_2
abbrev c_ref04_digits_0 : SC := .seq (.reg [o 6 (.mv (.k .nils))]) c_ref04_digits_1
theorem cf_ref04_digits : cfun Go.Proofs.Try.prog md n_ref04_digits = some ⟨3, 26, c_ref04_digits_0.erase, [.t 6]⟩ := by kernel_rfl
-- ref04_Value
abbrev c_ref04_ValueL0_2 : SC := (.reg [o 12 (.mv (.t 6)), o 13 (.bin .sub (.t 12) (ki 1)), o 6 (.mv (.t 13))])
abbrev c_ref04_ValueL0_1 : SC := .seq (.block 1 (.reg [o 14 (.mv (.t 5)), o 15 (.fadr (.t 2) 0), o 18 (.mv (.t 1)), o 19 (.mv (.t 6)), o 20 (.iadr (.t 18) (.t 19) 1), o 16 (.ld (.t 15) 1 false), o 17 (.bin .mul (.t 14) (.t 16)), o 21 (.ld (.t 20) 1 false), o 22 (.bin .add (.t 17) (.t 21)), o 5 (.mv (.t 22))])) c_ref04_ValueL0_2
abbrev c_ref04_ValueL0_0 : SC := .seq (.seq (.reg [o 10 (.mv (.t 6)), o 11 (.bin .geq (.t 10) (ki 0))]) (.cond (.t 11) .skip (.exit 0))) c_ref04_ValueL0_1
abbrev c_ref04_Value_4 : SC := .ret
abbrev c_ref04_Value_3 : SC := .seq (.reg [o 23 (.mv (.t 5)), o 4 (.mv (.t 23))]) c_ref04_Value_4
abbrev c_ref04_Value_2 : SC := .seq (.seq (.reg [o 7 (.mv (.t 1)), o 8 (.len (.t 7)), o 9 (.bin .sub (.t 8) (ki 1)), o 6 (.mv (.t 9))]) (.block 0 (.loop c_ref04_ValueL0_0))) c_ref04_Value_3
abbrev c_ref04_Value_1 : SC := .seq (.reg [o 5 (.mv (ki 0))]) c_ref04_Value_2
abbrev c_ref04_Value_0 : SC := .seq (.reg [o 2 (.box (.t 0)), o 4 (.mv (ki 0))]) c_ref04_Value_1
theorem cf_ref04_Value : cfun Go.Proofs.Try.prog md n_ref04_Value = some ⟨2, 24, c_ref04_Value_0.erase, [.t 4]⟩ := by kernel_rfl
-- ref04_divides
abbrev c_ref04_dividesL1_2 : SC := (.reg [o 36 (.mv (.t 11)), o 37 (.bin .add (.t 36) (ki 1)), o 11 (.mv (.t 37))])
abbrev c_ref04_dividesL1_1 : SC := .seq (.block 3 (.reg [o 38 (.mv (.t 8)), o 39 (.mv (.t 9)), o 40 (.mv (.t 7)), o 41 (.bin .sub (.t 39) (.t 40)), o 42 (.mv (.t 11)), o 43 (.bin .add (.t 41) (.t 42)), o 44 (.mv (.t 8)), o 45 (.mv (.t 9)), o 46 (.mv (.t 7)), o 47 (.bin .sub (.t 45) (.t 46)), o 48 (.mv (.t 11)), o 49 (.bin .add (.t 47) (.t 48)), o 50 (.iadr (.t 44) (.t 49) 1), o 52 (.mv (.t 2)), o 53 (.mv (.t 10)), o 54 (.bin .sub (.t 52) (.t 53)), o 55 (.mv (.t 0)), o 56 (.mv (.t 11)), o 57 (.iadr (.t 55) (.t 56) 1), o 61 (.mv (.t 2)), o 51 (.ld (.t 50) 1 false), o 58 (.ld (.t 57) 1 false), o 59 (.bin .mul (.t 54) (.t 58)), o 60 (.bin .add (.t 51) (.t 59)), o 62 (.bin .rem (.t 60) (.t 61)), o 63 (.iadr (.t 38) (.t 43) 1), os (.st (.t 63) (.t 62) 1)])) c_ref04_dividesL1_2
abbrev c_ref04_dividesL1_0 : SC := .seq (.seq (.reg [o 33 (.mv (.t 11)), o 34 (.mv (.t 7)), o 35 (.bin .lss (.t 33) (.t 34))]) (.cond (.t 35) .skip (.exit 2))) c_ref04_dividesL1_1
abbrev c_ref04_dividesL0_2 : SC := (.reg [o 27 (.mv (.t 9)), o 28 (.bin .sub (.t 27) (ki 1)), o 9 (.mv (.t 28))])
abbrev c_ref04_dividesL0_1 : SC := .seq (.block 1 (.seq (.reg [o 29 (.mv (.t 8)), o 30 (.mv (.t 9)), o 31 (.iadr (.t 29) (.t 30) 1), o 32 (.ld (.t 31) 1 false), o 10 (.mv (.t 32))]) (.seq (.seq (.reg [o 11 (.mv (ki 0))]) (.block 2 (.loop c_ref04_dividesL1_0))) (.reg [o 64 (.mv (.t 8)), o 65 (.mv (.t 9)), o 66 (.iadr (.t 64) (.t 65) 1), os (.st (.t 66) (ki 0) 1)])))) c_ref04_dividesL0_2
abbrev c_ref04_dividesL0_0 : SC := .seq (.seq (.reg [o 24 (.mv (.t 9)), o 25 (.mv (.t 7)), o 26 (.bin .geq (.t 24) (.t 25))]) (.cond (.t 26) .skip (.exit 0))) c_ref04_dividesL0_1
abbrev c_ref04_dividesL2_2 : SC := (.reg [o 71 (.mv (.t 12)), o 72 (.bin .add (.t 71) (ki 1)), o 12 (.mv (.t 72))])
abbrev c_ref04_dividesL2_1 : SC := .seq (.block 5 (.seq (.reg [o 73 (.mv (.t 8)), o 74 (.mv (.t 12)), o 75 (.iadr (.t 73) (.t 74) 1), o 76 (.ld (.t 75) 1 false), o 77 (.bin .neq (.t 76) (ki 0))]) (.cond (.t 77) (.seq (.reg [o 6 (.mv (kb false))]) .ret) .skip))) c_ref04_dividesL2_2
abbrev c_ref04_dividesL2_0 : SC := .seq (.seq (.reg [o 67 (.mv (.t 12)), o 68 (.mv (.t 8)), o 69 (.len (.t 68)), o 70 (.bin .lss (.t 67) (.t 69))]) (.cond (.t 70) .skip (.exit 4))) c_ref04_dividesL2_1
abbrev c_ref04_divides_7 : SC := .ret
abbrev c_ref04_divides_6 : SC := .seq (.reg [o 6 (.mv (kb true))]) c_ref04_divides_7
abbrev c_ref04_divides_5 : SC := .seq (.seq (.reg [o 12 (.mv (ki 0))]) (.block 4 (.loop c_ref04_dividesL2_0))) c_ref04_divides_6
abbrev c_ref04_divides_4 : SC := .seq (.seq (.reg [o 21 (.mv (.t 8)), o 22 (.len (.t 21)), o 23 (.bin .sub (.t 22) (ki 1)), o 9 (.mv (.t 23))]) (.block 0 (.loop c_ref04_dividesL0_0))) c_ref04_divides_5
abbrev c_ref04_divides_3 : SC := .seq (.reg [o 18 (.mv (.t 8)), o 19 (.mkl 1 1 [I 0] [(0, (1, ki 1))]), o 20 (.app (.t 18) (.t 19) 1), o 8 (.mv (.t 20))]) c_ref04_divides_4
abbrev c_ref04_divides_2 : SC := .seq (.reg [o 15 (.mkl 0 1 [] []), o 16 (.mv (.t 1)), o 17 (.app (.t 15) (.t 16) 1), o 8 (.mv (.t 17))]) c_ref04_divides_3
abbrev c_ref04_divides_1 : SC := .seq (.reg [o 13 (.mv (.t 0)), o 14 (.len (.t 13)), o 7 (.mv (.t 14))]) c_ref04_divides_2
abbrev c_ref04_divides_0 : SC := .seq (.reg [o 6 (.mv (kb false))]) c_ref04_divides_1
theorem cf_ref04_divides : cfun Go.Proofs.Try.prog md n_ref04_divides = some ⟨3, 78, c_ref04_divides_0.erase, [.t 6]⟩ := by kernel_rfl
-- ref04_irreducible
abbrev c_ref04_irreducibleL1_2 : SC := (.reg [o 21 (.mv (.t 7)), o 22 (.bin .add (.t 21) (ki 1)), o 7 (.mv (.t 22))])
abbrev c_ref04_irreducibleL1_1 : SC := .seq (.block 3 (.seq (.reg [o 23 (.mv (.t 7)), o 24 (.mv (.t 1)), o 25 (.mv (.t 6)), o 26 (.call (.f n_ref04_digits) [.t 23, .t 24, .t 25]), o 27 (.mv (.t 0)), o 28 (.mv (.t 1)), o 29 (.call (.f n_ref04_divides) [.t 26, .t 27, .t 28])]) (.cond (.t 29) (.seq (.reg [o 4 (.mv (kb false))]) .ret) .skip))) c_ref04_irreducibleL1_2
abbrev c_ref04_irreducibleL1_0 : SC := .seq (.seq (.reg [o 18 (.mv (.t 7)), o 19 (.mv (.t 5)), o 20 (.bin .lss (.t 18) (.t 19))]) (.cond (.t 20) .skip (.exit 2))) c_ref04_irreducibleL1_1
abbrev c_ref04_irreducibleL0_2 : SC := (.reg [o 13 (.mv (.t 6)), o 14 (.bin .add (.t 13) (ki 1)), o 6 (.mv (.t 14))])
abbrev c_ref04_irreducibleL0_1 : SC := .seq (.block 1 (.seq (.reg [o 15 (.mv (.t 5)), o 16 (.mv (.t 1)), o 17 (.bin .mul (.t 15) (.t 16)), o 5 (.mv (.t 17))]) (.seq (.reg [o 7 (.mv (ki 0))]) (.block 2 (.loop c_ref04_irreducibleL1_0))))) c_ref04_irreducibleL0_2
abbrev c_ref04_irreducibleL0_0 : SC := .seq (.seq (.reg [o 8 (.mv (.t 6)), o 9 (.bin .mul (ki 2) (.t 8)), o 10 (.mv (.t 0)), o 11 (.len (.t 10)), o 12 (.bin .leq (.t 9) (.t 11))]) (.cond (.t 12) .skip (.exit 0))) c_ref04_irreducibleL0_1
abbrev c_ref04_irreducible_4 : SC := .ret
abbrev c_ref04_irreducible_3 : SC := .seq (.reg [o 4 (.mv (kb true))]) c_ref04_irreducible_4
abbrev c_ref04_irreducible_2 : SC := .seq (.seq (.reg [o 6 (.mv (ki 1))]) (.block 0 (.loop c_ref04_irreducibleL0_0))) c_ref04_irreducible_3
abbrev c_ref04_irreducible_1 : SC := .seq (.reg [o 5 (.mv (ki 1))]) c_ref04_irreducible_2
abbrev c_ref04_irreducible_0 : SC := .seq (.reg [o 4 (.mv (kb false))]) c_ref04_irreducible_1
theorem cf_ref04_irreducible : cfun Go.Proofs.Try.prog md n_ref04_irreducible = some ⟨2, 30, c_ref04_irreducible_0.erase, [.t 4]⟩ := by kernel_rfl
-- ref04_Check
abbrev c_ref04_CheckL0_2 : SC := (.reg [o 30 (.mv (.t 3)), o 31 (.bin .add (.t 30) (ki 1)), o 3 (.mv (.t 31))])
abbrev c_ref04_CheckL0_1 : SC := .seq (.block 1 (.seq (.reg [o 32 (.fadr (.t 1) 2), o 34 (.mv (.t 3)), o 33 (.ld (.t 32) 1 false), o 35 (.iadr (.t 33) (.t 34) 1), o 36 (.ld (.t 35) 1 false), o 37 (.bin .lss (.t 36) (ki 0)), o 38 (.mv (.t 37)), og 38 false 0 39 (.fadr (.t 1) 2), og 38 false 0 41 (.mv (.t 3)), og 38 false 0 44 (.fadr (.t 1) 0), og 38 false 0 40 (.ld (.t 39) 1 false), og 38 false 0 42 (.iadr (.t 40) (.t 41) 1), og 38 false 0 43 (.ld (.t 42) 1 false), og 38 false 0 45 (.ld (.t 44) 1 false), og 38 false 0 46 (.bin .geq (.t 43) (.t 45)), o 47 (.pick (.t 38) (kb true) (.t 46))]) (.cond (.t 47) (.seq (.reg [o 2 (.mv (ki 1))]) .ret) .skip))) c_ref04_CheckL0_2
abbrev c_ref04_CheckL0_0 : SC := .seq (.seq (.reg [o 26 (.mv (.t 3)), o 27 (.fadr (.t 1) 1), o 28 (.ld (.t 27) 1 false), o 29 (.bin .lss (.t 26) (.t 28))]) (.cond (.t 29) .skip (.exit 0))) c_ref04_CheckL0_1
abbrev c_ref04_Check_7 : SC := .ret
abbrev c_ref04_Check_6 : SC := .seq (.reg [o 2 (.mv (ki 0))]) c_ref04_Check_7
abbrev c_ref04_Check_5 : SC := .seq (.seq (.reg [o 48 (.fadr (.t 1) 2), o 49 (.ld (.t 48) 1 false), o 50 (.fadr (.t 1) 0), o 51 (.ld (.t 50) 1 false), o 52 (.call (.f n_ref04_irreducible) [.t 49, .t 51]), o 53 (.not (.t 52))]) (.cond (.t 53) (.seq (.reg [o 2 (.mv (ki 1))]) .ret) .skip)) c_ref04_Check_6
abbrev c_ref04_Check_4 : SC := .seq (.seq (.reg [o 3 (.mv (ki 0))]) (.block 0 (.loop c_ref04_CheckL0_0))) c_ref04_Check_5
abbrev c_ref04_Check_3 : SC := .seq (.seq (.reg [o 20 (.fadr (.t 1) 2), o 21 (.ld (.t 20) 1 false), o 22 (.len (.t 21)), o 23 (.fadr (.t 1) 1), o 24 (.ld (.t 23) 1 false), o 25 (.bin .neq (.t 22) (.t 24))]) (.cond (.t 25) (.seq (.reg [o 2 (.mv (ki 1))]) .ret) .skip)) c_ref04_Check_4
abbrev c_ref04_Check_2 : SC := .seq (.seq (.reg [o 13 (.fadr (.t 1) 1), o 14 (.ld (.t 13) 1 false), o 15 (.bin .eql (.t 14) (ki 1))]) (.cond (.t 15) (.seq (.seq (.reg [o 16 (.fadr (.t 1) 2), o 17 (.ld (.t 16) 1 false), o 18 (.len (.t 17)), o 19 (.bin .neq (.t 18) (ki 0))]) (.cond (.t 19) (.seq (.reg [o 2 (.mv (ki 1))]) .ret) .skip)) (.seq (.reg [o 2 (.mv (ki 0))]) .ret)) .skip)) c_ref04_Check_3
abbrev c_ref04_Check_1 : SC := .seq (.seq (.reg [o 4 (.ld (.t 1) 3 true), o 5 (.call (.f n_ref04_Order) [.t 4]), o 6 (.bin .eql (.t 5) (ki 0)), o 7 (.mv (.t 6)), og 7 false 0 8 (.fadr (.t 1) 0), og 7 false 0 9 (.ld (.t 8) 1 false), og 7 false 0 10 (.call (.f n_ref04_prime) [.t 9]), og 7 false 0 11 (.not (.t 10)), o 12 (.pick (.t 7) (kb true) (.t 11))]) (.cond (.t 12) (.seq (.reg [o 2 (.mv (ki 1))]) .ret) .skip)) c_ref04_Check_2
abbrev c_ref04_Check_0 : SC := .seq (.reg [o 1 (.box (.t 0)), o 2 (.mv (ki 0))]) c_ref04_Check_1
theorem cf_ref04_Check : cfun Go.Proofs.Try.prog md n_ref04_Check = some ⟨1, 54, c_ref04_Check_0.erase, [.t 2]⟩ := by kernel_rfl
end Go.AM.Ytmihmgnjnedfcab
end

section
/- Contracts of functions: orders, primes, digits, values. -/
set_option maxRecDepth 100000
set_option linter.unusedSimpArgs false
set_option linter.unusedVariables false
namespace Go.AM.Ytmihmgnjnedfcab
open Go Go.AM
attribute [local simp ↓] awp_seq awp_reg awp_skip awp_cond awp_block awp_exit awp_ret awp_fz thenW_normal thenW_exit thenW_ret inBlk_normal inBlk_exit inBlk_ret aops_cons aops_nil e_mv e_guard e_pick e_ld e_app e_cpy e_st e_call callW_f updO_some updO_none e_bin e_isnil e_fadr e_iadr e_iarr e_len e_build e_mkf e_nc e_not e_neg e_cvt e_slc e_fld e_ext e_min e_eqs e_new e_box e_mkl e_mks
attribute [local simp] upd_apply ev_t ev_k ev_f binA_add binA_sub binA_mul binA_quo binA_rem binA_eql binA_neq binA_lss binA_leq binA_gtr binA_geq det mem frame0 keeps_nil iadrA_sl fadrA_ref fadrA_fp ldv_agg ldv_one cells_base hset_same hset_hset lenA_fs lenA_sl lenA_nils zeros_ints ints_length one_base one_nilp one_nils one_ref one_sl one_fp one_fs one_fn gl_one resA resOf bound natOf afill splice AV.cells cells_agg bindW_some condW_true condW_false condW_dec condW_ndec guardW_tup guardW_true guardW_true' guardW_false guardW_false' allocW_some pickA_true pickA_false
open Go.FM

/-- The order, or 0. -/
def ordE (p m : Int) : Int := if 2 ≤ p ∧ p ≤ 256 ∧ 1 ≤ m ∧ m ≤ 8 ∧ p ^ m.toNat ≤ 256 then p ^ m.toNat else 0

theorem pow_mono {p : Int} (hp : 2 ≤ p) {a b : Nat} (h : a ≤ b) : p ^ a ≤ p ^ b := by
  obtain ⟨q, rfl⟩ : ∃ q : Nat, p = q := ⟨p.toNat, by omega⟩
  have : q ^ a ≤ q ^ b := Nat.pow_le_pow_right (by omega) h
  have h2 : ((q ^ a : Nat) : Int) ≤ ((q ^ b : Nat) : Int) := by omega
  simpa using h2
theorem pow_pos2 {p : Int} (hp : 2 ≤ p) (a : Nat) : 1 ≤ p ^ a := by
  have := pow_mono hp (Nat.zero_le a)
  simpa using this

theorem s_order (p m : Int) : Pure prog n_field_order [I p, I m] (I (ordE p m)) := by
  refine pure_of cf_field_order rfl fun h => ?_
  by_cases c1 : p < 2
  · simp [c1]
    rw [show ordE p m = 0 by simp [ordE]; omega]; exact RetP.same
  by_cases c2 : 256 < p
  · simp [c1, c2]
    rw [show ordE p m = 0 by simp [ordE]; omega]; exact RetP.same
  by_cases c3 : m < 1
  · simp [c1, c2, c3]
    rw [show ordE p m = 0 by simp [ordE]; omega]; exact RetP.same
  by_cases c4 : 8 < m
  · simp [c1, c2, c3, c4]
    rw [show ordE p m = 0 by simp [ordE]; omega]; exact RetP.same
  simp [c1, c2, c3, c4]
  refine awp_for m.toNat (fun k fr' h' => h' = h ∧ fr' 21 = I k ∧ fr' 5 = I (p ^ k) ∧ p ^ k ≤ 256) ⟨rfl, by simp, by simp, by simp⟩ ?_
  intro k fr' h' hkn hk ⟨hh, h21, h5, hq⟩
  subst hh
  have k0 := hk 0 (by decide)
  have k20 := hk 20 (by decide)
  simp at k0 k20
  clear hk
  have hp1 := pow_pos2 (p := p) (by omega) k
  have hsucc : p ^ (k + 1) = p ^ k * p := Int.pow_succ ..
  have hm2 : p ^ k * p ≤ 256 * 256 := Int.mul_le_mul hq (by omega) (by omega) (by omega)
  have hm3 : 0 ≤ p ^ k * p := Int.mul_nonneg (by omega) (by omega)
  by_cases hlt : k < m.toNat
  · have hlt' : (k : Int) < m := by omega
    have u1 : IntKind.i64.wrap (p ^ k * p) = p ^ k * p := w64 _ (by omega)
    have u2 : IntKind.i64.wrap ((k : Int) + 1) = k + 1 := w64 _ (by omega)
    by_cases g : 256 < p ^ k * p
    · simp [h21, h5, k0, k20, hlt', u1, g]
      rw [show ordE p m = 0 by
        have := pow_mono (p := p) (by omega) (show k + 1 ≤ m.toNat by omega)
        simp [ordE]; omega]
      exact RetP.same
    · simp [h21, h5, k0, k20, hlt', u1, g, u2, hsucc]
      omega
  · have : k = m.toNat := by omega
    subst this
    have hlt' : ¬ ((m.toNat : Nat) : Int) < m := by omega
    have hlt2 : max m 0 = m := by omega
    simp [h21, h5, k20, hlt', hlt2]
    rw [show ordE p m = p ^ m.toNat by rw [ordE, if_pos]; omega]
    exact RetP.same

/-- A description's cells. -/
abbrev dcells (p m : Int) (v : AV) : List AV := [I p, I m, v]

theorem ld3_at {h : Hp} {b : Nat} {x y z : AV} (hb : h b = some [x, y, z]) : cellsAt h (.ref b 0) 1 = some [x] ∧ cellsAt h (.ref b 1) 1 = some [y] ∧ cellsAt h (.ref b 2) 1 = some [z] ∧ cellsAt h (.ref b 0) 3 = some [x, y, z] :=
  ⟨ld_one_at hb (by simp), ld_one_at hb (by simp), ld_one_at hb (by simp), ld_at hb (by simp)⟩

theorem s_Order (p m : Int) {v : AV} (hv : one v = true) : Pure prog n_ref04_Order [.agg (dcells p m v)] (I (ordE p m)) := by
  refine pure_of cf_ref04_Order rfl fun h => ?_
  simp [hv]
  intro b1 hb1
  obtain ⟨l0, l1, l2, l3⟩ := ld3_at (hset_same h b1 [I p, I m, v])
  have hk : Kp h (hset h b1 [I p, I m, v]) := (Kp.refl h).new hb1 _
  generalize hset h b1 [I p, I m, v] = g at *
  have fin : ∀ x, ordE p m = x → RetP h (I (ordE p m)) (I x) g := fun x hx => hx ▸ ⟨_, hk.sub, .id _, rfl⟩
  by_cases c1 : p < 2
  · simp [l0, l1, c1]
    exact fin _ (by simp [ordE]; omega)
  by_cases c3 : m < 1
  · simp [l0, l1, c1, c3]
    exact fin _ (by simp [ordE]; omega)
  by_cases c4 : 8 < m
  · simp [l0, l1, c1, c3, c4]
    exact fin _ (by simp [ordE]; omega)
  simp [l0, l1, c1, c3, c4]
  refine awp_for m.toNat (fun k fr' h' => h' = g ∧ fr' 4 = I k ∧ fr' 3 = I (p ^ k) ∧ p ^ k ≤ 256) ⟨rfl, by simp, by simp, by simp⟩ ?_
  intro k fr' h' hkn hk' ⟨hh, h4, h5, hq⟩
  subst hh
  have k1 := hk' 1 (by decide)
  simp at k1
  clear hk'
  have hp1 := pow_pos2 (p := p) (by omega) k
  have hsucc : p ^ (k + 1) = p ^ k * p := Int.pow_succ ..
  by_cases hlt : k < m.toNat
  · have hlt' : (k : Int) < m := by omega
    have hp0 : p ≠ 0 := by omega
    have hd : (256 : Int).tdiv p = 256 / p := Int.tdiv_eq_ediv_of_nonneg (by omega)
    have hd2 : 0 ≤ 256 / p := Int.ediv_nonneg (by omega) (by omega)
    have hd3 : 256 / p ≤ 256 := Int.ediv_le_self _ (by omega)
    have u0 : IntKind.i64.wrap (256 / p) = 256 / p := w64 _ (by omega)
    have u2 : IntKind.i64.wrap ((k : Int) + 1) = k + 1 := w64 _ (by omega)
    by_cases g : 256 / p < p ^ k
    · simp [h4, h5, k1, l0, l1, hlt', hp0, hd, u0, g]
      refine fin _ ?_
      have h1 : 256 < p ^ k * p := Int.lt_mul_of_ediv_lt (by omega) g
      have := pow_mono (p := p) (by omega) (show k + 1 ≤ m.toNat by omega)
      simp [ordE]; omega
    · have h1 : p ^ k * p ≤ 256 := by
        have : p ^ k * p ≤ 256 / p * p := Int.mul_le_mul_of_nonneg_right (by omega) (by omega)
        have := Int.ediv_mul_le 256 (b := p) (by omega)
        omega
      have hm3 : 0 ≤ p ^ k * p := Int.mul_nonneg (by omega) (by omega)
      have u1 : IntKind.i64.wrap (p ^ k * p) = p ^ k * p := w64 _ (by omega)
      simp [h4, h5, k1, l0, l1, hlt', hp0, hd, u0, u1, g, u2, hsucc]
      omega
  · have : k = m.toNat := by omega
    subst this
    have hlt' : ¬ ((m.toNat : Nat) : Int) < m := by omega
    have hlt2 : max m 0 = m := by omega
    simp [h4, h5, k1, l0, l1, hlt', hlt2]
    refine fin _ ?_
    have : p ≤ p ^ m.toNat := by
      have := pow_mono (p := p) (by omega) (show 1 ≤ m.toNat by omega)
      have e1 : p ^ 1 = p := by rw [Int.pow_succ]; simp
      omega
    rw [ordE, if_pos]; omega

theorem isP_of_sqrt {n D : Nat} (hn : 2 ≤ n) (h : ∀ e, 2 ≤ e → e < D → n % e ≠ 0) (hD : n < D * D) : IsP n := by
  refine ⟨hn, fun e h2 hlt he => ?_⟩
  have h3 : e * (n / e) = n := by have := Nat.div_add_mod n e; omega
  by_cases h4 : e < D
  · exact h e h2 h4 he
  · have h5 : n / e < D := by
      apply Classical.byContradiction
      intro hc
      have : D * D ≤ e * (n / e) := Nat.mul_le_mul (by omega) (by omega)
      omega
    have h6 : 2 ≤ n / e := by
      apply Classical.byContradiction
      intro hc
      have : n / e ≤ 1 := by omega
      have : e * (n / e) ≤ e * 1 := Nat.mul_le_mul_left _ this
      omega
    refine h (n / e) h6 h5 ?_
    have := Nat.mul_mod_left e (n / e)
    rwa [h3] at this

open Classical in
theorem s_isPrime (n : Nat) (hn : n ≤ 256) : Pure prog n_field_isPrime [I n] (B (decide (IsP n))) := by
  refine pure_of cf_field_isPrime rfl fun h => ?_
  simp
  refine awp_for n (fun k fr' h' => h' = h ∧ fr' 3 = I (k + 2) ∧ ∀ e, 2 ≤ e → e < k + 2 → n % e ≠ 0) ⟨rfl, by simp, fun e h1 h2 => by omega⟩ ?_
  intro k fr' h' hkn hk ⟨hh, h3, hx⟩
  subst hh
  have k0 := hk 0 (by decide)
  simp at k0
  clear hk
  have hm : (0 : Int) ≤ ((k : Int) + 2) * (k + 2) := Int.mul_nonneg (by omega) (by omega)
  have hm2 : ((k : Int) + 2) * (k + 2) ≤ 258 * 258 := Int.mul_le_mul (by omega) (by omega) (by omega) (by omega)
  have u1 : IntKind.i64.wrap (((k : Int) + 2) * (k + 2)) = ((k : Int) + 2) * (k + 2) := w64 _ (by omega)
  have hcast : (((k + 2) * (k + 2) : Nat) : Int) = ((k : Int) + 2) * (k + 2) := by simp
  by_cases c : ((k : Int) + 2) * (k + 2) ≤ n
  · have hc : (k + 2) * (k + 2) ≤ n := by omega
    have hkk : (k + 2) * 2 ≤ (k + 2) * (k + 2) := Nat.mul_le_mul_left _ (by omega)
    have h0 : (k : Int) + 2 ≠ 0 := by omega
    have ht : (n : Int).tmod ((k : Int) + 2) = ((n % (k + 2) : Nat) : Int) := by
      rw [Int.ofNat_tmod]; rfl
    by_cases d : n % (k + 2) = 0
    · simp [h3, k0, u1, c, h0, ht, d]
      rw [show decide (IsP n) = false by
        refine decide_eq_false fun hp => hp.2 (k + 2) (by omega) (by omega) d]
      exact RetP.same
    · have u2 : IntKind.i64.wrap ((k : Int) + 2 + 1) = k + 1 + 2 := by rw [w64 _ (by omega)]; omega
      have d' : ¬ (n : Int) % ((k : Int) + 2) = 0 := by
        intro hc
        have : ((n % (k + 2) : Nat) : Int) = 0 := by rw [Int.natCast_emod]; simpa using hc
        omega
      simp [h3, k0, u1, c, h0, ht, u2]
      rw [if_neg d']
      refine ⟨by omega, fun e h1 h2 => ?_⟩
      by_cases he : e = k + 2
      · subst he; exact d
      · exact hx e h1 (by omega)
  · simp [h3, k0, u1, c]
    rw [show decide (IsP n) = decide (2 ≤ (n : Int)) by
      by_cases h2 : 2 ≤ n
      · rw [decide_eq_true (isP_of_sqrt h2 hx (by omega)), decide_eq_true (by omega)]
      · rw [decide_eq_false (fun hp => h2 hp.1), decide_eq_false (by omega)]]
    exact RetP.same

open Classical in
theorem s_prime (n : Nat) (hn : n ≤ 256) (h2 : 2 ≤ n) : Pure prog n_ref04_prime [I n] (B (decide (IsP n))) := by
  refine pure_of cf_ref04_prime rfl fun h => ?_
  simp
  refine awp_for n (fun k fr' h' => h' = h ∧ fr' 3 = I (k + 2) ∧ k + 2 ≤ n ∧ ∀ e, 2 ≤ e → e < k + 2 → n % e ≠ 0) ⟨rfl, by simp, by omega, fun e h1 h2 => by omega⟩ ?_
  intro k fr' h' hkn hk ⟨hh, h3, hle, hx⟩
  subst hh
  have k0 := hk 0 (by decide)
  simp at k0
  clear hk
  by_cases c : (k : Int) + 2 < n
  · have h0 : (k : Int) + 2 ≠ 0 := by omega
    have ht : (n : Int).tmod ((k : Int) + 2) = ((n % (k + 2) : Nat) : Int) := by
      rw [Int.ofNat_tmod]; rfl
    by_cases d : n % (k + 2) = 0
    · simp [h3, k0, c, h0, ht, d]
      rw [show decide (IsP n) = false by
        refine decide_eq_false fun hp => hp.2 (k + 2) (by omega) (by omega) d]
      exact RetP.same
    · have u2 : IntKind.i64.wrap ((k : Int) + 2 + 1) = k + 1 + 2 := by rw [w64 _ (by omega)]; omega
      have d' : ¬ (n : Int) % ((k : Int) + 2) = 0 := by
        intro hc
        have : ((n % (k + 2) : Nat) : Int) = 0 := by rw [Int.natCast_emod]; simpa using hc
        omega
      simp [h3, k0, c, h0, ht, u2]
      rw [if_neg d']
      refine ⟨by omega, by omega, fun e h1 h2 => ?_⟩
      by_cases he : e = k + 2
      · subst he; exact d
      · exact hx e h1 (by omega)
  · simp [h3, k0, c]
    rw [show decide (IsP n) = true from decide_eq_true ⟨h2, fun d h1 h2 => hx d h1 (by omega)⟩]
    exact RetP.same
end Go.AM.Ytmihmgnjnedfcab
end

section
/- Contracts of functions: digits, values, the program's multiplication. -/
set_option maxRecDepth 100000
set_option linter.unusedSimpArgs false
set_option linter.unusedVariables false
namespace Go.AM.Ytmihmgnjnedfcab
open Go Go.AM
attribute [local simp ↓] awp_seq awp_reg awp_skip awp_cond awp_block awp_exit awp_ret awp_fz thenW_normal thenW_exit thenW_ret inBlk_normal inBlk_exit inBlk_ret aops_cons aops_nil e_mv e_guard e_pick e_ld e_app e_cpy e_st e_call callW_f updO_some updO_none e_bin e_isnil e_fadr e_iadr e_iarr e_len e_build e_mkf e_nc e_not e_neg e_cvt e_slc e_fld e_ext e_min e_eqs e_new e_box e_mkl e_mks
attribute [local simp] upd_apply ev_t ev_k ev_f binA_add binA_sub binA_mul binA_quo binA_rem binA_eql binA_neq binA_lss binA_leq binA_gtr binA_geq det mem frame0 keeps_nil iadrA_sl fadrA_ref fadrA_fp ldv_agg ldv_one cells_base hset_same hset_hset lenA_fs lenA_sl lenA_nils zeros_ints ints_length one_base one_nilp one_nils one_ref one_sl one_fp one_fs one_fn gl_one resA resOf bound natOf afill splice AV.cells cells_agg bindW_some condW_true condW_false condW_dec condW_ndec guardW_tup guardW_true guardW_true' guardW_false guardW_false' allocW_some pickA_true pickA_false
open Go.FM

def dv (p : Int) : Nat → Int → Int
  | 0, x => x
  | k + 1, x => dv p k (x / p)
theorem dv_succ (p : Int) : ∀ (k : Nat) (x : Int), dv p (k + 1) x = dv p k x / p
  | 0, x => rfl
  | k + 1, x => by
    show dv p (k + 1) (x / p) = dv p k (x / p) / p
    exact dv_succ p k (x / p)
theorem digs_snoc (p : Int) : ∀ (k : Nat) (x : Int), digs p (k + 1) x = digs p k x ++ [dv p k x % p]
  | 0, x => rfl
  | k + 1, x => by
    have := digs_snoc p k (x / p)
    show x % p :: digs p (k + 1) (x / p) = x % p :: digs p k (x / p) ++ [dv p k (x / p) % p]
    rw [this]; rfl
theorem dv_range {p : Int} (hp : 2 ≤ p) : ∀ (k : Nat) {x : Int}, 0 ≤ x → 0 ≤ dv p k x ∧ dv p k x ≤ x
  | 0, x, h => ⟨h, Int.le_refl _⟩
  | k + 1, x, h => by
    have h1 : 0 ≤ x / p := Int.ediv_nonneg h (by omega)
    have h2 : x / p ≤ x := Int.ediv_le_self _ h
    have := dv_range hp k h1
    exact ⟨this.1, by have := this.2; show dv p k (x / p) ≤ x; omega⟩

theorem set_mid {α : Type} {a : List α} {z v : α} {n k : Nat} (ha : a.length = k) (hk : k < n) : (a ++ List.replicate (n - k) z).set k v = (a ++ [v]) ++ List.replicate (n - (k + 1)) z := by
  subst ha
  rw [List.set_append_right _ _ (Nat.le_refl _), Nat.sub_self, show n - a.length = (n - (a.length + 1)) + 1 by omega, List.replicate_succ]
  simp

/-- The digits of x, in a block of their own. -/
theorem w_digitsOf {x p : Int} {m : Nat} (hx : 0 ≤ x ∧ x ≤ 9223372036854775807) (hp : 2 ≤ p) (hm : m ≤ 4294967296) : Pure prog n_field_digitsOf [I x, I p, I m] (.fs m (ints (digs p m x))) := by
  refine pure_of cf_field_digitsOf rfl fun h => ?_
  have hm' : (m : Int) ≤ 4294967296 := by omega
  simp [hm']
  intro b7 hb7
  have hk0 : Kp h (hset h b7 (ints (List.replicate m 0))) := (Kp.refl h).new hb7 _
  refine awp_for m (fun k fr' h' => Kp h h' ∧ h' b7 = some (ints (digs p k x ++ List.replicate (m - k) 0)) ∧ fr' 13 = I k ∧ fr' 0 = I (dv p k x)) ⟨hk0, by simp [hset_same, digs], by simp, by simp [dv]⟩ ?_
  intro k fr' h' hkn hk ⟨hkp, hb, h13, h0⟩
  have k1 := hk 1 (by decide)
  have k7 := hk 7 (by decide)
  have k12 := hk 12 (by decide)
  simp at k1 k7 k12
  clear hk
  by_cases hlt : k < m
  · have hdr := dv_range hp k hx.1
    have hp0 : p ≠ 0 := by omega
    have e1 : (dv p k x).tmod p = dv p k x % p := Int.tmod_eq_emod_of_nonneg hdr.1
    have e2 : (dv p k x).tdiv p = dv p (k + 1) x := by rw [dv_succ]; exact Int.tdiv_eq_ediv_of_nonneg hdr.1
    have hdr2 := dv_range hp (k + 1) hx.1
    have u1 : IntKind.i64.wrap (dv p (k + 1) x) = dv p (k + 1) x := w64 _ (by omega)
    have u2 : IntKind.i64.wrap ((k : Int) + 1) = k + 1 := w64 _ (by omega)
    have st := fun Q => st_ints_at (v := dv p k x % p) (Q := Q) hb (k := k) (by simp [digs_length]; omega)
    rw [set_mid (digs_length p k x) hlt] at st
    simp [h13, h0, k1, k7, k12, hlt, hp0, e1, e2, u1, u2, st]
    exact ⟨hkp.set hb7 _, by rw [digs_snoc]; simp⟩
  · have : k = m := by omega
    subst this
    simp [h13, k7, k12]
    rw [Nat.sub_self, List.replicate_zero, List.append_nil] at hb
    exact ret_blk hb hb7 hkp (by simp [ints_length, digs_length]) rfl

theorem val_drop {p : Int} {l : List Int} {j : Nat} (hj : j < l.length) : val p (l.drop j) = l.getD j 0 + p * val p (l.drop (j + 1)) := by
  rw [List.drop_eq_getElem_cons hj]
  simp [val, List.getD, hj]

theorem Dg_drop {p : Int} {l : List Int} (h : Dg p l) (j : Nat) : Dg p (l.drop j) := fun x hx => h x (List.mem_of_mem_drop hx)
theorem Dg_getD {p : Int} {l : List Int} (h : Dg p l) {j : Nat} (hj : j < l.length) : 0 ≤ l.getD j 0 ∧ l.getD j 0 < p := by
  simp only [List.getD, List.getElem?_eq_getElem hj, Option.getD_some]
  exact h _ (List.getElem_mem hj)

theorem val_le {p : Int} (hp : 2 ≤ p) {l : List Int} (h : Dg p l) (hl : p ^ l.length ≤ 256) (j : Nat) : 0 ≤ val p (l.drop j) ∧ val p (l.drop j) < 256 := by
  have h1 := val_range (by omega) (Dg_drop h j)
  have h2 := pow_mono hp (show (l.drop j).length ≤ l.length by simp)
  omega

theorem s_valueOf {v : AV} {l : List Int} (hv : IL v l) {p : Int} (hp : 2 ≤ p) (hp2 : p ≤ 256) (h : Dg p l) (hl : p ^ l.length ≤ 256) (hll : l.length ≤ 1000) : Pure prog n_field_valueOf [v, I p] (I (val p l)) := by
  refine pure_of cf_field_valueOf rfl fun h' => ?_
  have u0 : IntKind.i64.wrap ((l.length : Int) - 1) = l.length - 1 := w64 _ (by omega)
  simp [hv.len, u0]
  refine awp_for l.length (fun k fr' h2 => h2 = h' ∧ (∃ i : Int, i + k = (l.length : Int) - 1 ∧ fr' 6 = I i) ∧ fr' 5 = I (val p (l.drop (l.length - k)))) ⟨rfl, ⟨_, by simp; rfl, by simp⟩, by simp [val]⟩ ?_
  intro k fr' h2 hkn hk ⟨hh, ⟨i, hi, h6⟩, h5⟩
  subst hh
  have k0 := hk 0 (by decide)
  have k1 := hk 1 (by decide)
  simp at k0 k1
  clear hk
  by_cases hlt : k < l.length
  · have hj : l.length - 1 - k < l.length := by omega
    have c : 0 ≤ i := by omega
    have e0 : i.toNat = l.length - 1 - k := by omega
    have hia := hv.iadr (i := i) ⟨by omega, by omega⟩
    rw [e0] at hia
    have hld := ld_ints (h := h2) hj
    have hg := Dg_getD h hj
    have hvd := val_drop (p := p) hj
    have hv1 := val_le hp h hl (l.length - 1 - k + 1)
    have hv2 := val_le hp h hl (l.length - 1 - k)
    rw [show l.length - k = l.length - 1 - k + 1 by omega] at h5
    rw [show l.length - (k + 1) = l.length - 1 - k by omega, hvd]
    rw [hvd] at hv2
    generalize val p (l.drop (l.length - 1 - k + 1)) = y at *
    generalize l.getD (l.length - 1 - k) 0 = z at *
    have hm1 : 0 ≤ p * y := Int.mul_nonneg (by omega) hv1.1
    have hcm : y * p = p * y := Int.mul_comm _ _
    have u1 : IntKind.i64.wrap (y * p) = y * p := w64 _ (by omega)
    have u2 : IntKind.i64.wrap (y * p + z) = z + p * y := by rw [w64 _ (by omega)]; omega
    have u3 : IntKind.i64.wrap (i - 1) = i - 1 := w64 _ (by omega)
    simp [h6, h5, k0, k1, c, hia, hld, u1, u2, u3, hlt]
    omega
  · have : k = l.length := by omega
    subst this
    have c : ¬ 0 ≤ i := by omega
    simp [h6, h5, c]
    exact RetP.same
end Go.AM.Ytmihmgnjnedfcab
end

section
/- Contracts of functions: the program's multiplication. -/
set_option maxRecDepth 100000
set_option linter.unusedSimpArgs false
set_option linter.unusedVariables false
namespace Go.AM.Ytmihmgnjnedfcab
open Go Go.AM
attribute [local simp ↓] awp_seq awp_reg awp_skip awp_cond awp_block awp_exit awp_ret awp_fz thenW_normal thenW_exit thenW_ret inBlk_normal inBlk_exit inBlk_ret aops_cons aops_nil e_mv e_guard e_pick e_ld e_app e_cpy e_st e_call callW_f updO_some updO_none e_bin e_isnil e_fadr e_iadr e_iarr e_len e_build e_mkf e_nc e_not e_neg e_cvt e_slc e_fld e_ext e_min e_eqs e_new e_box e_mkl e_mks
attribute [local simp] upd_apply ev_t ev_k ev_f binA_add binA_sub binA_mul binA_quo binA_rem binA_eql binA_neq binA_lss binA_leq binA_gtr binA_geq det mem frame0 keeps_nil iadrA_sl fadrA_ref fadrA_fp ldv_agg ldv_one cells_base hset_same hset_hset lenA_fs lenA_sl lenA_nils zeros_ints ints_length one_base one_nilp one_nils one_ref one_sl one_fp one_fs one_fn gl_one resA resOf bound natOf afill splice AV.cells cells_agg bindW_some condW_true condW_false condW_dec condW_ndec guardW_tup guardW_true guardW_true' guardW_false guardW_false' allocW_some pickA_true pickA_false
open Go.FM

theorem le8 {p m : Nat} (hp : 2 ≤ p) (h : p ^ m ≤ 256) : m ≤ 8 := by
  apply Classical.byContradiction
  intro hc
  have h1 : 2 ^ m ≤ p ^ m := Nat.pow_le_pow_left hp _
  have h2 : 2 ^ 9 ≤ 2 ^ m := Nat.pow_le_pow_right (by omega) (by omega)
  omega

/-- What is asked of a ring: numbers that fit. -/
structure Rg (D : Ds) : Prop extends D.Okm where
  q256 : D.q ≤ 256
theorem Rg.m8 {D : Ds} (r : Rg D) : D.m ≤ 8 := le8 r.p2 r.q256
theorem Rg.p256 {D : Ds} (r : Rg D) : D.p ≤ 256 := by
  have h1 := r.m1
  have h2 : D.p ^ 1 ≤ D.p ^ D.m := Nat.pow_le_pow_right (by have := r.p2; omega) h1
  have h3 := r.q256
  unfold Ds.q at h3
  simp at h2; omega
theorem Rg.pm {D : Ds} (r : Rg D) : (D.p : Int) ^ D.m ≤ 256 := by
  have := r.q256
  have h := Ds.qI D
  omega

theorem tk_get {a b : List Int} {j i : Nat} (hj : j ≤ a.length) : (a.take j ++ b.drop j).getD i 0 = if i < j then a.getD i 0 else b.getD i 0 := by
  simp only [List.getD]
  by_cases h : i < j
  · rw [if_pos h, List.getElem?_append_left (by simp; omega), List.getElem?_take, if_pos h]
  · rw [if_neg h, List.getElem?_append_right (by simp; omega), List.getElem?_drop]
    simp only [List.length_take, Nat.min_eq_left hj]
    rw [show j + (i - j) = i by omega]
theorem tk_set {a b : List Int} {j : Nat} (hj : j < a.length) (hb : b.length = a.length) : (a.take j ++ b.drop j).set j (a.getD j 0) = a.take (j + 1) ++ b.drop (j + 1) := by
  rw [List.set_append_right _ _ (by simp; omega), List.drop_eq_getElem_cons (by omega : j < b.length)]
  simp only [List.length_take, show min j a.length = j by omega, Nat.sub_self, List.set_cons_zero]
  rw [List.take_succ_eq_append_getElem hj, List.append_assoc]
  simp [List.getD, hj]
theorem tk_len {a b : List Int} {j : Nat} (hj : j ≤ a.length) (hb : b.length = a.length) : (a.take j ++ b.drop j).length = a.length := by simp; omega

theorem sh_get {os : List Int} {m j : Nat} (hm : os.length = m) (hj : j < m) : ((os.take 1 ++ os.take (m - 1)).set 0 0).getD j 0 = if j = 0 then 0 else os.getD (j - 1) 0 := by
  match os, hm with
  | [], hm => simp at hm; omega
  | o :: os, hm =>
    simp only [List.take_succ_cons, List.take_zero, List.cons_append, List.nil_append, List.set_cons_zero]
    cases j with
    | zero => simp
    | succ j =>
      simp only [List.getD_cons_succ, Nat.succ_ne_zero, if_false, Nat.add_sub_cancel]
      simp only [List.getD, List.getElem?_take]
      rw [if_pos (by omega)]

set_option maxHeartbeats 4000000 in
theorem s_multiply {D : Ds} (r : Rg D) {mv : AV} (hmv : IL mv D.mo) {x y : Int} (hx : D.R x) (hy : D.R y) :
    Pure prog n_field_multiply [.agg [I D.p, I D.m, mv], I x, I y] (I (D.mul x y)) := by
  refine pure_of cf_field_multiply rfl fun h => ?_
  have hp2 := r.p2
  have hm1 := r.m1
  have hm8 := r.m8
  have hp256 := r.p256
  have hq := r.q256
  have hone := hmv.one
  have hx2 := hx.2
  have hy2 := hy.2
  simp [hone]
  intro b3 hb3
  obtain ⟨l0, l1, l2, l3⟩ := ld3_at (hset_same h b3 [I D.p, I D.m, mv])
  have hkg : Kp h (hset h b3 [I D.p, I D.m, mv]) := (Kp.refl h).new hb3 _
  have hg3 : (hset h b3 [I D.p, I D.m, mv]) b3 = some [I D.p, I D.m, mv] := hset_same ..
  generalize hset h b3 [I D.p, I D.m, mv] = g at *
  simp [l0, l1]
  refine (w_digitsOf (p := D.p) (m := D.m) ⟨hx.1, by omega⟩ (by omega) (by omega)).call ?_
  refine (w_digitsOf (p := D.p) (m := D.m) ⟨hy.1, by omega⟩ (by omega) (by omega)).call ?_
  have e0 : (D.m : Int) ≤ 4294967296 := by omega
  have um : IntKind.i64.wrap ((D.m : Int) - 1) = D.m - 1 := w64 _ (by omega)
  simp [l1, e0, um]
  intro b9 hb9
  have ne : b3 ≠ b9 := fun he => by rw [← he, hg3] at hb9; cases hb9
  simp [ld_other ne, l1, um]
  have hl9 := digs_length (D.p : Int) D.m
  have hda := digs_Dg r.p0 D.m x
  have hdb := digs_Dg r.p0 D.m y
  have hmul := r.toOkm.mulL_mul hx hy
  unfold Ds.mulL at hmul
  have hIa := IL.fs (digs (D.p : Int) D.m x)
  have hIb := IL.fs (digs (D.p : Int) D.m y)
  rw [hl9] at hIa hIb
  have hla := hl9 x
  have hlb := hl9 y
  generalize digs (D.p : Int) D.m x = xa at *
  generalize digs (D.p : Int) D.m y = xb at *
  have hml := r.toOkm.moL_len
  have hml2 : ∀ j, D.moL.getD j 0 = if D.m = 1 then 0 else D.mo.getD j 0 := by
    intro j
    unfold Ds.moL
    split
    · cases j <;> simp
    · rfl
  have hdm : Dg D.p D.moL := by
    obtain ⟨fs, h3, h4⟩ := r.toOkm.moN
    rw [← h4]; exact h3.up
  have hlmo := r.len
  refine awp_for D.m (fun k fr' h' => Kp g h' ∧ h' b9 = some (ints (horner D.p D.moL xa (List.replicate D.m 0) (xb.drop (D.m - k)))) ∧ (∃ i : Int, i + k = (D.m : Int) - 1 ∧ fr' 10 = I i)) ⟨(Kp.refl g).new hb9 _, by rw [hset_same, Nat.sub_zero, List.drop_eq_nil_of_le (by omega)]; rfl, ⟨_, by simp; rfl, by simp⟩⟩ ?_
  intro k fr' h' hkn hk ⟨hkp, hb, ⟨i, hi, h10⟩⟩
  have k3 := hk 3 (by decide)
  have k7 := hk 7 (by decide)
  have k8 := hk 8 (by decide)
  have k9 := hk 9 (by decide)
  simp at k3 k7 k8 k9
  clear hk
  obtain ⟨l0', l1', l2', _⟩ := ld3_at (hkp b3 _ hg3)
  by_cases hlt : k < D.m
  · have hj : D.m - 1 - k < xb.length := by omega
    have c : 0 ≤ i := by omega
    have ei : i.toNat = D.m - 1 - k := by omega
    have hol := horner_length (p := D.p) (z := List.replicate D.m 0) (m := D.m) (by simp) hml hla (xb.drop (D.m - k))
    have hod : Dg D.p (horner D.p D.moL xa (List.replicate D.m 0) (xb.drop (D.m - k))) := horner_Dg r.p0 (Dg_zeros r.p0 D.m) _
    have hnext : horner D.p D.moL xa (List.replicate D.m 0) (xb.drop (D.m - (k + 1))) = hstep D.p D.moL xa (xb.getD (D.m - 1 - k) 0) (horner D.p D.moL xa (List.replicate D.m 0) (xb.drop (D.m - k))) := by
      rw [show D.m - (k + 1) = D.m - 1 - k by omega, List.drop_eq_getElem_cons hj, show D.m - 1 - k + 1 = D.m - k by omega]
      simp [horner, List.getD, hj]
    rw [hnext]
    clear hnext
    have hcb := Dg_getD hdb hj
    have hib := hIb.iadr (i := i) ⟨c, by omega⟩
    rw [ei] at hib
    have hldb := fun h' => ld_ints (h := h') hj
    generalize xb.getD (D.m - 1 - k) 0 = cb at *
    generalize horner D.p D.moL xa (List.replicate D.m 0) (xb.drop (D.m - k)) = os at *
    have hN1 : (hstep D.p D.moL xa cb os).length = os.length := hstep_length (by omega) (by omega)
    have hN2 : ∀ j, j < os.length → vl (hstep D.p D.moL xa cb os) j = ((if j = 0 then 0 else vl os (j - 1)) + (D.p - vl os (os.length - 1)) * vl D.moL j + cb * vl xa j) % D.p := fun j hj => hstep_get (by omega) (by omega) hj
    generalize hstep D.p D.moL xa cb os = N at *
    have htop := ld_ints_at hb (k := D.m - 1) (by omega)
    have htr := Dg_getD hod (j := D.m - 1) (by omega)
    simp only [vl, hol] at hN2
    generalize os.getD (D.m - 1) 0 = top at *
    have hsl := hN1.trans hol
    have et : ((D.m : Int) - 1).toNat = D.m - 1 := by omega
    have c1 : (1 : Int) ≤ D.m := by omega
    have hcp := fun K => cpy_up (K := K) hb hol (by omega)
    have hb2 : (hset h' b9 (ints (os.take 1 ++ os.take (D.m - 1)))) b9 = some (ints (os.take 1 ++ os.take (D.m - 1))) := hset_same ..
    have hst0 := fun Q => st_ints_at (v := 0) (Q := Q) hb2 (k := 0) (by simp; omega)
    have hsg := fun j hj => sh_get (os := os) (m := D.m) (j := j) hol hj
    have hshl : ((os.take 1 ++ os.take (D.m - 1)).set 0 0).length = D.m := by simp; omega
    have c2 : ((D.m : Int) - 1).toNat ≤ D.m := by omega
    have c3 : (D.m : Int) - 1 < D.m := by omega
    have c4 : 1 ≤ D.m := hm1
    have c5 : 0 < D.m := hm1
    simp [h10, c, k9, k3, l1', um, et, htop, slcA, c1, c3, c4, c5, hcp, hst0]
    have hkp3 : Kp g (hset h' b9 (ints ((os.take 1 ++ os.take (D.m - 1)).set 0 0))) := hkp.set hb9 _
    generalize (os.take 1 ++ os.take (D.m - 1)).set 0 0 = sh at *
    clear hcp hb2 hst0 htop
    have hshr : ∀ j, j < D.m → 0 ≤ sh.getD j 0 ∧ sh.getD j 0 < D.p := fun j hj => by
      rw [hsg j hj]
      split
      · omega
      · exact Dg_getD hod (by omega)
    refine awp_for D.m (fun j fr' h2 => Kp g h2 ∧ h2 b9 = some (ints (N.take j ++ sh.drop j)) ∧ fr' 54 = I j) ⟨hkp3, by simp [hset_same], by simp⟩ ?_
    clear hkp3
    intro j fr2 h2 hjn hk2 ⟨hkp2, hb2, h54⟩
    have m3 := hk2 3 (by decide)
    have m7 := hk2 7 (by decide)
    have m8 := hk2 8 (by decide)
    have m9 := hk2 9 (by decide)
    have m10 := hk2 10 (by decide)
    have m11 := hk2 11 (by decide)
    have m53 := hk2 53 (by decide)
    simp [k3, k7, k8, k9, h10] at m3 m7 m8 m9 m10 m11 m53
    clear hk2
    obtain ⟨q0, q1, q2, _⟩ := ld3_at (hkp2 b3 _ hg3)
    by_cases hj2 : j < D.m
    · have hja := hIa.iadr (i := j) ⟨by omega, by omega⟩
      simp at hja
      have hlda := fun h' => ld_ints (h := h') (l := xa) (k := j) (by omega)
      have hldo := ld_ints_at hb2 (k := j) (by rw [tk_len (by omega) (by omega)]; omega)
      rw [tk_get (by omega), if_neg (by omega)] at hldo
      have hst := fun Q => st_ints_at (v := N.getD j 0) (Q := Q) hb2 (k := j) (by rw [tk_len (by omega) (by omega)]; omega)
      rw [tk_set (by omega) (by omega)] at hst
      have hNj := hN2 j hj2
      have hra := Dg_getD hda (j := j) (by omega)
      have hrm := Dg_getD hdm (j := j) (by omega)
      have hrs := hshr j hj2
      rw [← hsg j hj2] at hNj
      have hmj := hml2 j
      generalize N.getD j 0 = nj at *
      generalize D.moL.getD j 0 = fj at *
      generalize sh.getD j 0 = sj at *
      generalize xa.getD j 0 = aj at *
      have b1 : 0 ≤ (D.p - top) * fj := Int.mul_nonneg (by omega) hrm.1
      have b2 : (D.p - top) * fj ≤ 256 * 256 := Int.mul_le_mul (by omega) (by omega) hrm.1 (by omega)
      have b3' : 0 ≤ cb * aj := Int.mul_nonneg hcb.1 hra.1
      have b4 : cb * aj ≤ 256 * 256 := Int.mul_le_mul (by omega) (by omega) hra.1 (by omega)
      have v1 : IntKind.i64.wrap (D.p - top) = D.p - top := w64 _ (by omega)
      have v2 : IntKind.i64.wrap ((D.p - top) * fj) = (D.p - top) * fj := w64 _ (by omega)
      have v3 : IntKind.i64.wrap (sj + (D.p - top) * fj) = sj + (D.p - top) * fj := w64 _ (by omega)
      have v4 : IntKind.i64.wrap (cb * aj) = cb * aj := w64 _ (by omega)
      have v5 : IntKind.i64.wrap (sj + (D.p - top) * fj + cb * aj) = sj + (D.p - top) * fj + cb * aj := w64 _ (by omega)
      have v6 : (sj + (D.p - top) * fj + cb * aj).tmod D.p = nj := by
        rw [Int.tmod_eq_emod_of_nonneg (by omega), hNj]
      have v7 : IntKind.i64.wrap ((j : Int) + 1) = j + 1 := w64 _ (by omega)
      have hp0 : (D.p : Int) ≠ 0 := by omega
      have hp0' : D.p ≠ 0 := by omega
      by_cases h1 : D.m = 1
      · have hm1' : ¬ (1 : Int) < D.m := by omega
        have hm1n : ¬ 1 < D.m := by omega
        rw [if_pos h1] at hmj
        rw [hmj] at v2 v3 v5 v6
        simp only [Int.mul_zero, Int.add_zero] at v2 v3 v5 v6
        simp [h54, m3, m7, m8, m9, m10, m11, m53, hj2, q0, q1, q2, hm1', hm1n, hldo, hja, hlda, hib, hldb, v1, v2, v3, v4, v5, v6, v7, hst, hp0, hp0']
        exact hkp2.set hb9 _
      · have hm1' : (1 : Int) < D.m := by omega
        have hm1n : 1 < D.m := by omega
        rw [if_neg h1] at hmj hlmo
        have hjm := hmv.iadr (i := j) ⟨by omega, by omega⟩
        simp at hjm
        have hldm : ∀ h', cellsAt h' (.fp ((ints D.mo).drop j)) 1 = some [I fj] := fun h' => by
          have := ld_ints (h := h') (l := D.mo) (k := j) (by omega)
          rwa [← hmj] at this
        simp [h54, m3, m7, m8, m9, m10, m11, m53, hj2, q0, q1, q2, hm1', hm1n, hldo, hja, hlda, hib, hldb, hjm, hldm, v1, v2, v3, v4, v5, v6, v7, hst, hp0, hp0']
        exact hkp2.set hb9 _
    · have : j = D.m := by omega
      subst this
      rw [List.take_of_length_le (by omega), List.drop_eq_nil_of_le (by omega), List.append_nil] at hb2
      have v7 : IntKind.i64.wrap (i - 1) = i - 1 := w64 _ (by omega)
      simp [h54, m10, m53, v7, hlt]
      exact ⟨hkp2, hb2, by omega⟩
  · have : k = D.m := by omega
    subst this
    have c : ¬ 0 ≤ i := by omega
    rw [Nat.sub_self, List.drop_zero] at hb
    have hol := horner_length (p := D.p) (z := List.replicate D.m 0) (m := D.m) (by simp) hml hla xb
    have hod : Dg D.p (horner D.p D.moL xa (List.replicate D.m 0) xb) := horner_Dg r.p0 (Dg_zeros r.p0 D.m) _
    simp [h10, c]
    refine Fz_one (g := g) (s := 9) (n := D.m) (sz := 1) (by simp [k9]) hb hb9 hkp (by rw [ints_length]; omega) ?_
    have hIo := IL.fs (horner D.p D.moL xa (List.replicate D.m 0) xb)
    rw [hol] at hIo
    simp [k3, l0]
    refine (s_valueOf hIo (p := D.p) (by omega) (by omega) hod (by rw [hol]; exact r.pm) (by omega)).call ?_
    simp [hmul]
    exact ⟨_, hkg.sub, .id _, rfl⟩
end Go.AM.Ytmihmgnjnedfcab
end

section
/- Contracts of functions: powers, generator. -/
set_option maxRecDepth 100000
set_option linter.unusedSimpArgs false
set_option linter.unusedVariables false
namespace Go.AM.Ytmihmgnjnedfcab
open Go Go.AM
attribute [local simp ↓] awp_seq awp_reg awp_skip awp_cond awp_block awp_exit awp_ret awp_fz thenW_normal thenW_exit thenW_ret inBlk_normal inBlk_exit inBlk_ret aops_cons aops_nil e_mv e_guard e_pick e_ld e_app e_cpy e_st e_call callW_f updO_some updO_none e_bin e_isnil e_fadr e_iadr e_iarr e_len e_build e_mkf e_nc e_not e_neg e_cvt e_slc e_fld e_ext e_min e_eqs e_new e_box e_mkl e_mks
attribute [local simp] upd_apply ev_t ev_k ev_f binA_add binA_sub binA_mul binA_quo binA_rem binA_eql binA_neq binA_lss binA_leq binA_gtr binA_geq det mem frame0 keeps_nil iadrA_sl fadrA_ref fadrA_fp ldv_agg ldv_one cells_base hset_same hset_hset lenA_fs lenA_sl lenA_nils zeros_ints ints_length one_base one_nilp one_nils one_ref one_sl one_fp one_fs one_fn gl_one resA resOf bound natOf afill splice AV.cells cells_agg bindW_some condW_true condW_false condW_dec condW_ndec guardW_tup guardW_true guardW_true' guardW_false guardW_false' allocW_some pickA_true pickA_false
open Go.FM

theorem least {P : Nat → Prop} (h : ∃ n, P n) : ∃ n, P n ∧ ∀ m, m < n → ¬ P m := by
  obtain ⟨n, hn⟩ := h
  induction n using Nat.strongRecOn with
  | _ n ih =>
    by_cases hc : ∃ m, m < n ∧ P m
    · obtain ⟨m, h1, h2⟩ := hc
      exact ih m h1 h2
    · exact ⟨n, hn, fun m hm hp => hc ⟨m, hm, hp⟩⟩

/-- The first n powers. -/
def pwL (D : Ds) (x : Int) (n : Nat) : List Int := (List.range n).map (D.pw x)
theorem pwL_len (D : Ds) (x : Int) (n : Nat) : (pwL D x n).length = n := by simp [pwL]
theorem pwL_succ (D : Ds) (x : Int) (n : Nat) : pwL D x (n + 1) = pwL D x n ++ [D.pw x n] := by simp [pwL, List.range_succ]
theorem pwL_mem {D : Ds} {x y : Int} {n : Nat} : y ∈ pwL D x n ↔ ∃ i, i < n ∧ D.pw x i = y := by simp [pwL]
theorem pwL_getD {D : Ds} {x : Int} {n i : Nat} (hi : i < n) : (pwL D x n).getD i 0 = D.pw x i := by simp [pwL, List.getD, hi]

/-- Here the powers stop. -/
def StopP (D : Ds) (x : Int) (n : Nat) : Prop := D.pw x n = 0 ∨ D.pw x n ∈ pwL D x n

theorem pw_nodup {D : Ds} {x : Int} {n : Nat} (h : ∀ m, m < n → ¬ StopP D x m) : (pwL D x n).Nodup ∧ ∀ y ∈ pwL D x n, y ≠ 0 := by
  induction n with
  | zero => simp [pwL]
  | succ n ih =>
    obtain ⟨h1, h2⟩ := ih fun m hm => h m (by omega)
    have h3 := h n (by omega)
    unfold StopP at h3
    rw [pwL_succ]
    refine ⟨?_, fun y hy => ?_⟩
    · rw [List.nodup_append]
      refine ⟨h1, by simp, fun a ha b hb => ?_⟩
      simp at hb; subst hb
      intro hab; exact h3 (.inr (hab ▸ ha))
    · rcases List.mem_append.1 hy with hy | hy
      · exact h2 y hy
      · simp at hy; subst hy; exact fun hc => h3 (.inl hc)

theorem nodup_short : ∀ (n : Nat) (l : List Int), l.Nodup → (∀ x ∈ l, 0 < x ∧ x ≤ n) → l.length ≤ n
  | 0, [], _, _ => by simp
  | 0, a :: l, _, h => by have := h a (by simp); omega
  | n + 1, l, hd, hr => by
    have h1 := nodup_short n (l.erase ((n + 1 : Nat) : Int)) (hd.erase _) (fun x hx => by
      have h6 := List.mem_of_mem_erase hx
      have h7 := hr x h6
      have h8 : x ≠ ((n + 1 : Nat) : Int) := fun he => by
        rw [he] at hx
        exact (List.Nodup.not_mem_erase hd) hx
      omega)
    have h2 : l.length ≤ (l.erase ((n + 1 : Nat) : Int)).length + 1 := by
      by_cases hm : ((n + 1 : Nat) : Int) ∈ l
      · rw [List.length_erase_of_mem hm]; omega
      · rw [List.erase_of_not_mem hm]; omega
    omega

theorem stop_ex {D : Ds} (o : D.Ok) (x : Int) : ∃ n, StopP D x n ∧ (∀ m, m < n → ¬ StopP D x m) ∧ 1 ≤ n ∧ n < D.q := by
  have h : ∃ n, StopP D x n := by
    apply Classical.byContradiction
    intro hc
    have hn : ∀ n, ¬ StopP D x n := fun n h => hc ⟨n, h⟩
    obtain ⟨h1, h2⟩ := pw_nodup (n := D.q) (x := x) fun m _ => hn m
    have := nodup_short (D.q - 1) _ h1 (fun y hy => by
      obtain ⟨i, _, rfl⟩ := pwL_mem.1 hy
      have h3 := o.pwR x i
      have h4 := h2 _ hy
      unfold Ds.R at h3
      omega)
    rw [pwL_len] at this
    have := o.q2
    omega
  obtain ⟨n, h1, h2⟩ := least h
  refine ⟨n, h1, h2, ?_, ?_⟩
  · cases n with
    | zero => rcases h1 with h1 | h1 <;> simp [Ds.pw, pwL] at h1
    | succ n => omega
  · obtain ⟨h3, h4⟩ := pw_nodup h2
    have := nodup_short (D.q - 1) _ h3 (fun y hy => by
      obtain ⟨i, _, rfl⟩ := pwL_mem.1 hy
      have h5 := o.pwR x i
      have h6 := h4 _ hy
      unfold Ds.R at h5
      omega)
    rw [pwL_len] at this
    have := o.q2
    omega

/-- Which residues have been seen. -/
noncomputable def seenL (q : Nat) (L : List Int) : List AV := by
  classical
  exact (List.range q).map fun (i : Nat) => B (decide ((i : Int) ∈ L))
theorem seenL_len (q : Nat) (L : List Int) : (seenL q L).length = q := by simp [seenL]
theorem seenL_nil (q : Nat) : seenL q [] = List.replicate q (B false) := by
  refine List.ext_getElem (by simp [seenL]) fun i h1 h2 => ?_
  simp [seenL]
theorem seenL_set {q : Nat} {L : List Int} {y : Int} (hy : 0 ≤ y ∧ y < q) : (seenL q L).set y.toNat (B true) = seenL q (L ++ [y]) := by
  refine List.ext_getElem (by simp [seenL]) fun i h1 h2 => ?_
  simp only [seenL, List.getElem_set, List.getElem_map, List.getElem_range]
  by_cases h : y.toNat = i
  · rw [if_pos h, decide_eq_true (by simp; omega)]
  · rw [if_neg h]
    congr 2
    apply propext
    simp
    intro hc; omega
open Classical in
theorem seenL_get {q : Nat} {L : List Int} {y : Int} (hy : 0 ≤ y ∧ y < q) : (seenL q L).getD y.toNat .nils = B (decide (y ∈ L)) := by
  have h : y.toNat < q := by omega
  simp only [seenL, List.getD, List.getElem?_map, List.getElem?_range h, Option.map_some, Option.getD_some]
  rw [show ((y.toNat : Nat) : Int) = y by omega]
theorem seenL_one (q : Nat) (L : List Int) : (seenL q L).all one = true := by
  simp [seenL, one_base]
theorem zeros_bools (n : Nat) : zeros n [.base (.bool false)] = List.replicate n (B false) := by
  simp [zeros]

set_option maxHeartbeats 2000000 in
open Classical in
theorem s_powers {D : Ds} (r : Rg D) {mv : AV} (hmv : IL mv D.mo) {x : Int} (hx : D.R x) {N : Nat} (h1 : StopP D x N) (h2 : ∀ m, m < N → ¬ StopP D x m) (hN1 : 1 ≤ N) (hNq : N < D.q) :
    Pure prog n_field_powers [.agg [I D.p, I D.m, mv], I D.q, I x] (.fs N (ints (pwL D x N))) := by
  refine pure_of cf_field_powers rfl fun h => ?_
  have hone := hmv.one
  have hq := r.q256
  have hq2 := r.q2
  simp [hone]
  intro b3 hb3
  have hkg : Kp h (hset h b3 [I D.p, I D.m, mv]) := (Kp.refl h).new hb3 _
  have hg3 : (hset h b3 [I D.p, I D.m, mv]) b3 = some [I D.p, I D.m, mv] := hset_same ..
  generalize hset h b3 [I D.p, I D.m, mv] = g at *
  intro b7 hb7
  have e0 : (D.q : Int) ≤ 4294967296 := by omega
  simp [e0, zeros_bools]
  intro b8 hb8
  have ne : b7 ≠ b8 := fun he => by rw [he, hset_same] at hb8; cases hb8
  have hst := fun Q => st_one_at (v := B true) (Q := Q) (hset_same (hset g b7 [I 1]) b8 (List.replicate D.q (B false))) rfl rfl (k := 1) (by simp; omega)
  have e1 : (1 : Int) < D.q := by omega
  have e2 : 1 < D.q := by omega
  have hs := seenL_set (q := D.q) (L := []) (y := 1) ⟨by omega, by omega⟩
  rw [seenL_nil] at hs
  have hs' : (List.replicate D.q (B false)).set 1 (B true) = seenL D.q (pwL D x 1) := by
    rw [show pwL D x 1 = [] ++ [1] by simp [pwL, Ds.pw]]; exact hs
  simp [e1, e2, hst, hs']
  have hF : Own 1 (hset g b8 (seenL D.q (pwL D x 1))) (hset (hset g b7 [I 1]) b8 (seenL D.q (pwL D x 1))) (.sl b7 0 1 1) 1 (ints (pwL D x 1)) := by
    refine ⟨((Kp.refl g).new hb7 _).both b8 _, by simp [pwL, ints], .inr ⟨by omega, b7, rfl, ?_, ?_⟩⟩
    · rw [hset_ne _ _ ne, hset_same]; simp [pwL, Ds.pw, ints]
    · rw [hset_ne _ _ ne]; exact hb7
  have hg8 : g b8 = none := by rw [hset_ne _ _ (Ne.symm ne)] at hb8; exact hb8
  refine awp_for (N - 1) (fun k fr' h' => ∃ F v, Kp g F ∧ F b8 = some (seenL D.q (pwL D x (k + 1))) ∧ Own 1 F h' v (k + 1) (ints (pwL D x (k + 1))) ∧ fr' 7 = v ∧ fr' 9 = I (D.pw x (k + 1)))
    ⟨_, _, (Kp.refl g).new hg8 _, hset_same .., hF, by simp, by simp; rw [r.toOk.pw_one, Ds.inn_of hx]⟩ ?_
  clear hF hst hs hs'
  intro k fr' h' hkn hk ⟨F, v, hkF, hF8, o, k7, k9⟩
  have k2 := hk 2 (by decide)
  have k3 := hk 3 (by decide)
  have k8 := hk 8 (by decide)
  simp at k2 k3 k8
  clear hk
  have hy := r.toOk.pwR x (k + 1)
  have hld := ld_one_at (o.rd hF8) (k := (D.pw x (k + 1)).toNat) (by rw [seenL_len]; have := hy.2; have := hy.1; omega)
  rw [seenL_get ⟨hy.1, hy.2⟩] at hld
  have hy1 := hy.1
  have hy2 := hy.2
  have hfin : StopP D x (k + 1) → RetP h (.fs N (ints (pwL D x N))) v h' := by
    intro hs
    have : N = k + 1 := by
      have h3 := h2 (k + 1)
      have : ¬ k + 1 < N := fun hc => h3 hc hs
      omega
    subst this
    have hG : Kp h F := hkg.trans hkF
    exact o.ret hG (by unfold gl; rw [if_neg (by omega)])
  by_cases d1 : D.pw x (k + 1) = 0
  · simp [k9, d1, k7]
    exact hfin (.inl d1)
  · by_cases d2 : D.pw x (k + 1) ∈ pwL D x (k + 1)
    · rw [decide_eq_true d2] at hld
      simp [k9, d1, k8, hy1, hy2, hld, k7]
      exact hfin (.inr d2)
    · have hns : ¬ StopP D x (k + 1) := fun hc => hc.elim d1 d2
      have hlt : k + 1 < N := by
        have : N ≠ k + 1 := fun hc => hns (hc ▸ h1)
        omega
      have hst := fun Q => st_one_at (v := B true) (Q := Q) (o.rd hF8) rfl rfl (k := (D.pw x (k + 1)).toNat) (by rw [seenL_len]; omega)
      rw [seenL_set ⟨hy1, hy2⟩] at hst
      rw [← pwL_succ] at hst
      rw [decide_eq_false d2] at hld
      have o2 := o.put hF8 (seenL D.q (pwL D x (k + 1 + 1)))
      have hk2 : Kp g (hset F b8 (seenL D.q (pwL D x (k + 1 + 1)))) := hkF.set hg8 _
      have hF82 : (hset F b8 (seenL D.q (pwL D x (k + 1 + 1)))) b8 = some (seenL D.q (pwL D x (k + 1 + 1))) := hset_same ..
      generalize hset F b8 (seenL D.q (pwL D x (k + 1 + 1))) = F2 at *
      simp [k9, d1, k8, hy1, hy2, hld, k7, hst]
      intro b hb
      refine o2.app1 (m := 1) hb (by simp) (by omega) fun v' h3 o3 => ?_
      have hg3' : h3 b3 = some [I D.p, I D.m, mv] := o3.rd (hk2 b3 _ hg3)
      obtain ⟨_, _, _, l3⟩ := ld3_at hg3'
      simp [k2, k3, l3]
      refine (s_multiply r hmv hy hx).call ?_
      simp
      refine ⟨by omega, F2, hk2, hF82, v', ?_, rfl, rfl⟩
      have : ints (pwL D x (k + 1 + 1)) = ints (pwL D x (k + 1)) ++ [I (D.pw x (k + 1))] := by rw [pwL_succ, ints_append]; rfl
      rw [this]; exact o3

theorem gen_stop {D : Ds} (r : Rg D) {x : Int} (hx : D.R x) {N : Nat} (h1 : StopP D x N) (h2 : ∀ m, m < N → ¬ StopP D x m) (hN1 : 1 ≤ N) : D.Gen x ↔ (N = D.q - 1 ∧ D.pw x (D.q - 1) = 1) := by
  have hq2 := r.q2
  constructor
  · intro g
    have hge : D.q - 1 ≤ N := by
      apply Classical.byContradiction
      intro hc
      rcases h1 with h1 | h1
      · exact g.ne0 r.toOk N h1
      · obtain ⟨i, hi, he⟩ := pwL_mem.1 h1
        have := g.inj r.toOk (i := i) (j := N) (by omega) (by omega) he
        omega
    refine ⟨?_, g.top⟩
    apply Classical.byContradiction
    intro hc
    refine h2 (D.q - 1) (by omega) (.inr ?_)
    rw [g.top]
    exact pwL_mem.2 ⟨0, by omega, rfl⟩
  · rintro ⟨rfl, ht⟩
    refine ⟨hx, ht, fun n h3 h4 hc => h2 n h4 (.inr ?_)⟩
    rw [hc]
    exact pwL_mem.2 ⟨0, h3, rfl⟩

open Classical in
/-- What generator gives: the powers of the first generator. -/
theorem s_generator {D : Ds} (r : Rg D) {mv : AV} (hmv : IL mv D.mo) {g0 : Nat} (hg : D.Gen g0) (hg1 : 1 ≤ g0) (hmin : ∀ y : Nat, 1 ≤ y → y < g0 → ¬ D.Gen y) :
    Pure prog n_field_generator [.agg [I D.p, I D.m, mv], I D.q] (.fs (D.q - 1) (ints (pwL D g0 (D.q - 1)))) := by
  refine pure_of cf_field_generator rfl fun h => ?_
  have hone := hmv.one
  have hq := r.q256
  have hq2 := r.q2
  have hg0q : (g0 : Int) < D.q := hg.r.2
  simp [hone]
  intro b2 hb2
  obtain ⟨_, _, _, l3⟩ := ld3_at (hset_same h b2 [I D.p, I D.m, mv])
  have hkg : Kp h (hset h b2 [I D.p, I D.m, mv]) := (Kp.refl h).new hb2 _
  generalize hset h b2 [I D.p, I D.m, mv] = g at *
  refine awp_for (g0 - 1) (fun k fr' h' => h' = g ∧ fr' 5 = I (k + 1)) ⟨rfl, by simp⟩ ?_
  intro k fr' h' hkn hk ⟨hh, k5⟩
  subst hh
  have k1 := hk 1 (by decide)
  have k2 := hk 2 (by decide)
  simp at k1 k2
  clear hk
  have hx : D.R ((k : Int) + 1) := ⟨by omega, by omega⟩
  obtain ⟨N, s1, s2, s3, s4⟩ := stop_ex r.toOk ((k : Int) + 1)
  have hgs := gen_stop r hx s1 s2 s3
  have c : (k : Int) + 1 < D.q := hx.2
  have hIL := IL.fs (pwL D ((k : Int) + 1) N)
  rw [pwL_len] at hIL
  simp [k5, k1, k2, c, l3]
  refine (s_powers r hmv hx s1 s2 s3 s4).call ?_
  have u1 : IntKind.i64.wrap ((D.q : Int) - 1) = D.q - 1 := w64 _ (by omega)
  have u2 : IntKind.i64.wrap ((D.q : Int) - 2) = D.q - 2 := w64 _ (by omega)
  have u3 : IntKind.i64.wrap ((k : Int) + 1 + 1) = k + 1 + 1 := w64 _ (by omega)
  by_cases d1 : N = D.q - 1
  · have d1' : (N : Int) = D.q - 1 := by omega
    have hia := hIL.iadr (i := (D.q : Int) - 2) ⟨by omega, by rw [pwL_len]; omega⟩
    rw [show ((D.q : Int) - 2).toNat = D.q - 2 by omega] at hia
    have hld := fun h' => ld_ints (h := h') (l := pwL D ((k : Int) + 1) N) (k := D.q - 2) (by rw [pwL_len]; omega)
    rw [pwL_getD (by omega)] at hld
    have hpr := r.toOk.pwR ((k : Int) + 1) (D.q - 2)
    have hmul : D.mul (D.pw ((k : Int) + 1) (D.q - 2)) ((k : Int) + 1) = D.pw ((k : Int) + 1) (D.q - 1) := by
      rw [show D.q - 1 = (D.q - 2) + 1 by omega]; rfl
    simp [k5, k1, k2, l3, d1', u1, u2]
    simp [hia, hld]
    refine (s_multiply r hmv hpr hx).call ?_
    rw [hmul]
    by_cases d2 : D.pw ((k : Int) + 1) (D.q - 1) = 1
    · have hgen : D.Gen ((k : Int) + 1) := hgs.2 ⟨d1, d2⟩
      have hke : g0 = k + 1 := by
        apply Classical.byContradiction
        intro hc
        exact hmin (k + 1) (by omega) (by omega) (by simpa using hgen)
      simp [d2]
      subst hke
      subst d1
      have : (((k + 1 : Nat) : Int)) = (k : Int) + 1 := by omega
      rw [this]
      exact ⟨_, hkg.sub, .id _, rfl⟩
    · have hng : ¬ D.Gen ((k : Int) + 1) := fun hc => d2 (hgs.1 hc).2
      have hke : g0 ≠ k + 1 := fun hc => hng (by rw [hc] at hg; simpa using hg)
      simp [d2, u3]
      omega
  · have d1' : ¬ (N : Int) = D.q - 1 := by omega
    have hng : ¬ D.Gen ((k : Int) + 1) := fun hc => d1 (hgs.1 hc).1
    have hke : g0 ≠ k + 1 := fun hc => hng (by rw [hc] at hg; simpa using hg)
    simp [k5, k1, k2, l3, d1', u1, u3]
    omega

open Classical in
theorem s_generator0 {D : Ds} (r : Rg D) {mv : AV} (hmv : IL mv D.mo) (hno : ∀ y : Int, ¬ D.Gen y) :
    Pure prog n_field_generator [.agg [I D.p, I D.m, mv], I D.q] .nils := by
  refine pure_of cf_field_generator rfl fun h => ?_
  have hone := hmv.one
  have hq := r.q256
  have hq2 := r.q2
  simp [hone]
  intro b2 hb2
  obtain ⟨_, _, _, l3⟩ := ld3_at (hset_same h b2 [I D.p, I D.m, mv])
  have hkg : Kp h (hset h b2 [I D.p, I D.m, mv]) := (Kp.refl h).new hb2 _
  generalize hset h b2 [I D.p, I D.m, mv] = g at *
  refine awp_for (D.q - 1) (fun k fr' h' => h' = g ∧ fr' 5 = I (k + 1)) ⟨rfl, by simp⟩ ?_
  intro k fr' h' hkn hk ⟨hh, k5⟩
  subst hh
  have k1 := hk 1 (by decide)
  have k2 := hk 2 (by decide)
  simp at k1 k2
  clear hk
  by_cases c : (k : Int) + 1 < D.q
  case neg =>
    simp [k5, k1, c]
    exact ⟨_, hkg.sub, .id _, rfl⟩
  have hx : D.R ((k : Int) + 1) := ⟨by omega, c⟩
  obtain ⟨N, s1, s2, s3, s4⟩ := stop_ex r.toOk ((k : Int) + 1)
  have hgs := gen_stop r hx s1 s2 s3
  have hng := hno ((k : Int) + 1)
  have hIL := IL.fs (pwL D ((k : Int) + 1) N)
  rw [pwL_len] at hIL
  simp [k5, k1, k2, c, l3]
  refine (s_powers r hmv hx s1 s2 s3 s4).call ?_
  have u1 : IntKind.i64.wrap ((D.q : Int) - 1) = D.q - 1 := w64 _ (by omega)
  have u2 : IntKind.i64.wrap ((D.q : Int) - 2) = D.q - 2 := w64 _ (by omega)
  have u3 : IntKind.i64.wrap ((k : Int) + 1 + 1) = k + 1 + 1 := w64 _ (by omega)
  by_cases d1 : N = D.q - 1
  · have d1' : (N : Int) = D.q - 1 := by omega
    have hia := hIL.iadr (i := (D.q : Int) - 2) ⟨by omega, by rw [pwL_len]; omega⟩
    rw [show ((D.q : Int) - 2).toNat = D.q - 2 by omega] at hia
    have hld := fun h' => ld_ints (h := h') (l := pwL D ((k : Int) + 1) N) (k := D.q - 2) (by rw [pwL_len]; omega)
    rw [pwL_getD (by omega)] at hld
    have hpr := r.toOk.pwR ((k : Int) + 1) (D.q - 2)
    have hmul : D.mul (D.pw ((k : Int) + 1) (D.q - 2)) ((k : Int) + 1) = D.pw ((k : Int) + 1) (D.q - 1) := by
      rw [show D.q - 1 = (D.q - 2) + 1 by omega]; rfl
    simp [k5, k1, k2, l3, d1', u1, u2]
    simp [hia, hld]
    refine (s_multiply r hmv hpr hx).call ?_
    rw [hmul]
    have d2 : ¬ D.pw ((k : Int) + 1) (D.q - 1) = 1 := fun d2 => hng (hgs.2 ⟨d1, d2⟩)
    simp [d2, u3]
    omega
  · have d1' : ¬ (N : Int) = D.q - 1 := by omega
    simp [k5, k1, k2, l3, d1', u1, u3]
    omega
end Go.AM.Ytmihmgnjnedfcab
end

section
/- Contracts of functions: shape, New. -/
set_option maxRecDepth 100000
set_option linter.unusedSimpArgs false
set_option linter.unusedVariables false
namespace Go.AM.Ytmihmgnjnedfcab
open Go Go.AM
attribute [local simp ↓] awp_seq awp_reg awp_skip awp_cond awp_block awp_exit awp_ret awp_fz thenW_normal thenW_exit thenW_ret inBlk_normal inBlk_exit inBlk_ret aops_cons aops_nil e_mv e_guard e_pick e_ld e_app e_cpy e_st e_call callW_f updO_some updO_none e_bin e_isnil e_fadr e_iadr e_iarr e_len e_build e_mkf e_nc e_not e_neg e_cvt e_slc e_fld e_ext e_min e_eqs e_new e_box e_mkl e_mks
attribute [local simp] upd_apply ev_t ev_k ev_f binA_add binA_sub binA_mul binA_quo binA_rem binA_eql binA_neq binA_lss binA_leq binA_gtr binA_geq det mem frame0 keeps_nil iadrA_sl fadrA_ref fadrA_fp ldv_agg ldv_one cells_base hset_same hset_hset lenA_fs lenA_sl lenA_nils zeros_ints ints_length one_base one_nilp one_nils one_ref one_sl one_fp one_fs one_fn gl_one resA resOf bound natOf afill splice AV.cells cells_agg bindW_some condW_true condW_false condW_dec condW_ndec guardW_tup guardW_true guardW_true' guardW_false guardW_false' allocW_some pickA_true pickA_false
open Go.FM

def mkD (p m : Int) (mo : List Int) : Ds := ⟨p.toNat, m.toNat, mo⟩

def ShapeP (p m : Int) (mo : List Int) : Prop := ordE p m ≠ 0 ∧ IsP p.toNat ∧ (if m = 1 then mo = [] else (mo.length : Int) = m ∧ ∀ c ∈ mo, 0 ≤ c ∧ c < p)

theorem ordE_ne {p m : Int} (h : ordE p m ≠ 0) : 2 ≤ p ∧ p ≤ 256 ∧ 1 ≤ m ∧ m ≤ 8 ∧ p ^ m.toNat ≤ 256 ∧ ordE p m = p ^ m.toNat := by
  unfold ordE at h ⊢
  split at h
  · rename_i hc
    rw [if_pos hc]
    exact ⟨hc.1, hc.2.1, hc.2.2.1, hc.2.2.2.1, hc.2.2.2.2, rfl⟩
  · exact (h rfl).elim

theorem ShapeP.dp {p m : Int} {mo : List Int} (h : ShapeP p m mo) : ((mkD p m mo).p : Int) = p := by have := ordE_ne h.1; simp [mkD]; omega
theorem ShapeP.dm {p m : Int} {mo : List Int} (h : ShapeP p m mo) : ((mkD p m mo).m : Int) = m := by have := ordE_ne h.1; simp [mkD]; omega
theorem ShapeP.dq {p m : Int} {mo : List Int} (h : ShapeP p m mo) : ((mkD p m mo).q : Int) = ordE p m := by
  have h1 := ordE_ne h.1
  rw [Ds.qI, h.dp, h1.2.2.2.2.2]
  rfl
theorem ShapeP.rg {p m : Int} {mo : List Int} (h : ShapeP p m mo) : Rg (mkD p m mo) := by
  have h1 := ordE_ne h.1
  have h2 := h.dp
  have h3 := h.dm
  have h4 := h.dq
  have h5 := h.2.2
  refine ⟨⟨⟨by omega, by omega⟩, ?_, ?_⟩, by omega⟩
  · by_cases hm : m = 1
    · rw [if_pos hm] at h5
      rw [if_pos (by omega)]
      simp [mkD, h5]
    · rw [if_neg hm] at h5
      rw [if_neg (by omega)]
      have := h5.1
      simp only [mkD]; omega
  · intro c hc
    rw [h2]
    by_cases hm : m = 1
    · rw [if_pos hm] at h5
      simp [mkD, h5] at hc
    · rw [if_neg hm] at h5
      exact h5.2 c hc

open Classical in
theorem s_shape (p m : Int) {mv : AV} {mo : List Int} (hmv : IL mv mo) (hml : mo.length < 4611686018427387904) : Pure prog n_field_shape [.agg [I p, I m, mv]] (B (decide (ShapeP p m mo))) := by
  refine pure_of cf_field_shape rfl fun h => ?_
  have hone := hmv.one
  simp [hone]
  intro b1 hb1
  obtain ⟨l0, l1, l2, l3⟩ := ld3_at (hset_same h b1 [I p, I m, mv])
  have hkg : Kp h (hset h b1 [I p, I m, mv]) := (Kp.refl h).new hb1 _
  generalize hset h b1 [I p, I m, mv] = g at *
  have fin : ∀ b : Bool, decide (ShapeP p m mo) = b → RetP h (B (decide (ShapeP p m mo))) (B b) g := fun b hb => hb ▸ ⟨_, hkg.sub, .id _, rfl⟩
  simp [l0, l1]
  refine (s_order p m).call ?_
  by_cases d0 : ordE p m = 0
  · simp [d0]
    exact fin false (decide_eq_false fun hs => hs.1 d0)
  have h1 := ordE_ne d0
  simp [d0, l0]
  obtain ⟨pn, rfl⟩ : ∃ n : Nat, p = n := ⟨p.toNat, by omega⟩
  refine (s_isPrime pn (by omega)).call ?_
  by_cases d1 : IsP pn
  case neg =>
    simp [d1]
    exact fin false (decide_eq_false fun hs => d1 (by simpa using hs.2.1))
  by_cases d2 : m = 1
  · simp [d1, l1, d2, l2, hmv.len]
    refine ⟨_, hkg.sub, .id _, ?_⟩
    congr 3
    apply propext
    constructor
    · intro hl
      exact ⟨by rw [← d2]; exact d0, by simpa using d1, by rw [if_pos rfl]; exact hl⟩
    · intro hs
      have := hs.2.2
      rw [if_pos rfl] at this
      exact this
  by_cases d3 : (mo.length : Int) = m
  case neg =>
    simp [d1, l1, d2, l2, hmv.len, d3]
    exact fin false (decide_eq_false fun hs => by have := hs.2.2; rw [if_neg d2] at this; exact d3 this.1)
  simp [d1, l1, d2, l2, hmv.len, d3]
  refine awp_for mo.length (fun k fr' h' => h' = g ∧ fr' 33 = I k ∧ ∀ c ∈ mo.take k, 0 ≤ c ∧ c < (pn : Int)) ⟨rfl, by simp, by simp⟩ ?_
  intro k fr' h' hkn hk ⟨hh, k33, hx⟩
  subst hh
  have k1 := hk 1 (by decide)
  have k31 := hk 31 (by decide)
  have k32 := hk 32 (by decide)
  simp [d3] at k1 k31 k32
  clear hk
  by_cases hlt : k < mo.length
  · have hlt' : (k : Int) < m := by omega
    have hia := hmv.iadr (i := k) ⟨by omega, by omega⟩
    simp at hia
    have hld := fun h' => ld_ints (h := h') hlt
    have hmem : mo.getD k 0 ∈ mo := by simp only [List.getD, List.getElem?_eq_getElem hlt, Option.getD_some]; exact List.getElem_mem hlt
    have htk : mo.take (k + 1) = mo.take k ++ [mo.getD k 0] := by rw [List.take_succ_eq_append_getElem hlt]; simp [List.getD, hlt]
    rw [htk]
    generalize mo.getD k 0 = y at *
    by_cases e1 : y < 0
    · simp [k1, k31, k32, k33, hlt', hia, hld, e1]
      exact fin false (decide_eq_false fun hs => by have := hs.2.2; rw [if_neg d2] at this; have := this.2 y hmem; omega)
    by_cases e2 : (pn : Int) ≤ y
    · simp [k1, k31, k32, k33, hlt', hia, hld, e1, e2, l0]
      exact fin false (decide_eq_false fun hs => by have := hs.2.2; rw [if_neg d2] at this; have := this.2 y hmem; omega)
    have u1 : IntKind.i64.wrap ((k : Int) + 1) = k + 1 := w64 _ (by omega)
    simp [k1, k31, k32, k33, hlt', hia, hld, e1, e2, l0, u1]
    refine ⟨by omega, fun c hc => ?_⟩
    rcases hc with hc | hc
    · exact hx c hc
    · omega
  · have : k = mo.length := by omega
    subst this
    have hlt' : ¬ ((mo.length : Nat) : Int) < m := by omega
    rw [List.take_length] at hx
    simp [k31, k32, k33, hlt']
    exact fin true (decide_eq_true ⟨d0, by simpa using d1, by rw [if_neg d2]; exact ⟨d3, hx⟩⟩)

/-- The description is that of a field. -/
def FieldP (p m : Int) (mo : List Int) : Prop := ShapeP p m mo ∧ (m = 1 ∨ Irr p mo)

open Classical in
/-- The first generator. -/
noncomputable def gen0 (D : Ds) : Nat := if h : ∃ n : Nat, 1 ≤ n ∧ D.Gen n then Classical.choose (least h) else 0

theorem gen0_spec {D : Ds} (r : Rg D) (h : ∃ x, D.Gen x) : D.Gen (gen0 D) ∧ 1 ≤ gen0 D ∧ ∀ y : Nat, 1 ≤ y → y < gen0 D → ¬ D.Gen y := by
  obtain ⟨x, hx⟩ := h
  have hex : ∃ n : Nat, 1 ≤ n ∧ D.Gen n := by
    have h0 : x ≠ 0 := by
      intro hc
      have h1 := hx.ne0 r.toOk 1
      rw [r.toOk.pw_one, Ds.inn_of hx.r] at h1
      exact h1 hc
    have := hx.r.1
    refine ⟨x.toNat, by omega, ?_⟩
    rw [show ((x.toNat : Nat) : Int) = x by omega]
    exact hx
  unfold gen0
  rw [dif_pos hex]
  have h2 := Classical.choose_spec (least hex)
  exact ⟨h2.1.2, h2.1.1, fun y h3 h4 h5 => h2.2 y h4 ⟨h3, h5⟩⟩

theorem ShapeP.gen {p m : Int} {mo : List Int} (h : ShapeP p m mo) : (m = 1 ∨ Irr p mo) ↔ ∃ x, (mkD p m mo).Gen x := by
  have hd := h.rg.toOkm.decide (by simpa [mkD] using h.2.1) h.rg.q256
  have h2 := h.dp
  have h3 := h.dm
  unfold Ds.Decided at hd
  rw [h2] at hd
  have e1 : (mkD p m mo).mo = mo := rfl
  rw [e1] at hd
  constructor
  · rintro (hm | hi)
    · exact hd.1 (.inl (by omega))
    · exact hd.1 (.inr hi)
  · rintro ⟨x, hx⟩
    by_cases hm : m = 1
    · exact .inl hm
    · refine .inr (Classical.byContradiction fun hi => ?_)
      obtain ⟨a, b, ha, hb, ha0, hb0, hab⟩ := hd.2 (by omega) hi
      exact hx.dom h.rg.toOk ha hb ha0 hb0 hab

/-- The table of exponents, as it is filled. -/
def logK (D : Ds) (g : Int) : Nat → List Int
  | 0 => List.replicate D.q 0
  | k + 1 => (logK D g k).set (D.pw g k).toNat k
theorem logK_len (D : Ds) (g : Int) : ∀ k, (logK D g k).length = D.q
  | 0 => by simp [logK]
  | k + 1 => by simp [logK, logK_len D g k]
theorem logK_get {D : Ds} (o : D.Ok) {g : Int} (hg : D.Gen g) : ∀ k, k ≤ D.q - 1 → ∀ i, i < k → (logK D g k).getD (D.pw g i).toNat 0 = i
  | 0, _, i, hi => by omega
  | k + 1, hk, i, hi => by
    have hr := o.pwR g i
    have hr2 := o.pwR g k
    unfold Ds.R at hr hr2
    simp only [logK, List.getD, List.getElem?_set, logK_len]
    by_cases h : (D.pw g k).toNat = (D.pw g i).toNat
    · have : k = i := hg.inj o (by omega) (by omega) (by omega)
      subst this
      rw [if_pos rfl, if_pos (by omega)]; rfl
    · rw [if_neg h]
      have hik : i ≠ k := fun hc => h (by rw [hc])
      exact logK_get o hg k (by omega) i (by omega)

/-- The cells of a field. -/
noncomputable def gfC (D : Ds) : List AV := [I D.p, I D.m, .fs D.mo.length (ints D.mo), I D.q, .fs (D.q - 1) (ints (pwL D (gen0 D) (D.q - 1))), .fs D.q (ints (logK D (gen0 D) (D.q - 1)))]

open Classical in
/-- What New gives. -/
noncomputable def newR (p m : Int) (mo : List Int) : AV := if FieldP p m mo then .tup [.fp (gfC (mkD p m mo)), I 0] else .tup [.nilp, I 1]

theorem app_empty {h : Hp} {b : Nat} {x : AV} {l : List Int} {R : AV → Hp → Prop} (hb : h b = some []) (hx : IL x l) (hl : l.length ≤ 4294967296)
    (k : ∀ b', (b' = b ∨ h b' = none) → R (.sl b' 0 l.length 1) (hset h b' (ints l))) : appW (.sl b 0 0 1) x 1 h R := by
  unfold appW
  rw [hx.read]
  simp only [hb]
  refine ⟨trivial, trivial, rfl, by omega, fun b' hb' => ?_⟩
  rw [Nat.zero_add, List.nil_append]
  exact k b' hb'

theorem ld6_at {h : Hp} {b : Nat} {x0 x1 x2 x3 x4 x5 : AV} (hb : h b = some [x0, x1, x2, x3, x4, x5]) : cellsAt h (.ref b 5) 1 = some [x5] := ld_one_at hb (by simp)

set_option maxHeartbeats 2000000 in
theorem s_New (p m : Int) {mv : AV} {mo : List Int} (hmv : IL mv mo) (hml : mo.length < 4611686018427387904) : Pure prog n_field_New [.agg [I p, I m, mv]] (newR p m mo) := by
  refine pure_of cf_field_New rfl fun h => ?_
  have hone := hmv.one
  simp [hone]
  intro b1 hb1
  obtain ⟨l0, l1, l2, l3⟩ := ld3_at (hset_same h b1 [I p, I m, mv])
  have hkg : Kp h (hset h b1 [I p, I m, mv]) := (Kp.refl h).new hb1 _
  have hg1 : (hset h b1 [I p, I m, mv]) b1 = some [I p, I m, mv] := hset_same ..
  generalize hset h b1 [I p, I m, mv] = g at *
  have bad : ¬ FieldP p m mo → RetP h (newR p m mo) (.tup [.nilp, I 1]) g := fun hb => by
    rw [newR, if_neg hb]; exact ⟨_, hkg.sub, .id _, rfl⟩
  simp [l3]
  refine (s_shape p m hmv hml).call ?_
  by_cases hs : ShapeP p m mo
  case neg =>
    simp [hs]
    exact bad fun hf => hs hf.1
  have r := hs.rg
  have e1 := hs.dp
  have e2 := hs.dm
  have e3 := hs.dq
  have hmo : (mkD p m mo).mo = mo := rfl
  simp [hs, l0, l1]
  refine (s_order p m).call ?_
  simp [l3]
  by_cases hgen : ∃ x, (mkD p m mo).Gen x
  case neg =>
    have sg := s_generator0 r hmv fun y hy => hgen ⟨y, hy⟩
    rw [e1, e2, e3] at sg
    refine sg.call ?_
    simp [isNil]
    exact bad fun hf => hgen (hs.gen.1 hf.2)
  obtain ⟨g1, g2, g3⟩ := gen0_spec r hgen
  have sg := s_generator r hmv g1 g2 g3
  rw [e1, e2, e3] at sg
  refine sg.call ?_
  have hf : FieldP p m mo := ⟨hs, hs.gen.2 hgen⟩
  have hq := r.q256
  have hq2 := r.q2
  rw [newR, if_pos hf]
  clear bad sg
  simp only [gfC]
  rw [e1, e2, hmo]
  have hmol : mo.length ≤ 8 := by
    have h5 := r.len
    have h6 := r.m8
    rw [hmo] at h5
    rw [h5]; split <;> omega
  rw [← e3]
  generalize gen0 (mkD p m mo) = gn at *
  generalize mkD p m mo = D at *
  simp [isNil, l0, l1, l2]
  intro b26 hb26
  have ne1 : b1 ≠ b26 := fun he => by rw [← he, hg1] at hb26; cases hb26
  refine app_empty (hset_same ..) hmv (by omega) fun bm hbm => ?_
  have hgm : g bm = none := by
    rcases hbm with rfl | hbm
    · exact hb26
    · by_cases e : bm = b26
      · rw [e]; exact hb26
      · rwa [hset_ne _ _ e] at hbm
  have hk2 : Kp g (hset (hset g b26 []) bm (ints mo)) := ((Kp.refl g).new hb26 _).set hgm _
  have hm2 : (hset (hset g b26 []) bm (ints mo)) bm = some (ints mo) := hset_same ..
  generalize hset (hset g b26 []) bm (ints mo) = g2 at *
  have e0 : (D.q : Int) ≤ 4294967296 := by omega
  simp [e0]
  intro b34 hb34
  have n1 : bm ≠ b34 := fun he => by rw [← he, hm2] at hb34; cases hb34
  have hk3 : Kp g (hset g2 b34 (ints (List.replicate D.q 0))) := hk2.new hb34 _
  have hm3 : (hset g2 b34 (ints (List.replicate D.q 0))) bm = some (ints mo) := by rw [hset_ne _ _ n1]; exact hm2
  have hl3 : (hset g2 b34 (ints (List.replicate D.q 0))) b34 = some (ints (List.replicate D.q 0)) := hset_same ..
  have hg34 := hk2.no hb34
  generalize hset g2 b34 (ints (List.replicate D.q 0)) = g3 at *
  clear hb34
  intro b36 hb36
  have n2 : bm ≠ b36 := fun he => by rw [← he, hm3] at hb36; cases hb36
  have n3 : b34 ≠ b36 := fun he => by rw [← he, hl3] at hb36; cases hb36
  have hg36 := hk3.no hb36
  have hIe := IL.fs (pwL D gn (D.q - 1))
  rw [pwL_len] at hIe
  have hq1 : ((D.q - 1 : Nat) : Int) = D.q - 1 := by omega
  refine awp_for (D.q - 1) (fun k fr' h' => Kp g h' ∧ h' bm = some (ints mo) ∧ h' b34 = some (ints (logK D gn k)) ∧ h' b36 = some [I p, I m, .sl bm 0 mo.length 1, I D.q, .fs (D.q - 1) (ints (pwL D gn (D.q - 1))), .sl b34 0 D.q 1] ∧ fr' 39 = I k)
    ⟨hk3.new hb36 _, by rw [hset_ne _ _ n2]; exact hm3, by rw [hset_ne _ _ n3]; exact hl3, hset_same .., by simp⟩ ?_
  intro k fr' h' hkn hk ⟨c1, c2, c3, c4, k39⟩
  have k6 := hk 6 (by decide)
  have k37 := hk 37 (by decide)
  have k38 := hk 38 (by decide)
  simp at k6 k37 k38
  clear hk
  by_cases hlt : k < D.q - 1
  · have hia := hIe.iadr (i := k) ⟨by omega, by rw [pwL_len]; omega⟩
    simp at hia
    have hld := fun h' => ld_ints (h := h') (l := pwL D gn (D.q - 1)) (k := k) (by rw [pwL_len]; omega)
    rw [pwL_getD hlt] at hld
    have hr := r.toOk.pwR gn k
    have hr1 := hr.1
    have hr2 := hr.2
    have hst := fun Q => st_ints_at (v := (k : Int)) (Q := Q) c3 (k := (D.pw gn k).toNat) (by rw [logK_len]; omega)
    have hlt' : (k : Int) < ((D.q - 1 : Nat) : Int) := by omega
    have u1 : IntKind.i64.wrap ((k : Int) + 1) = k + 1 := w64 _ (by omega)
    simp [k6, k37, k38, k39, hlt, hlt', hia, hld, isNil, ld6_at c4, hr1, hr2, hst, u1]
    exact ⟨c1.set hg34 _, by rw [hset_ne _ _ n1]; exact c2, by rfl, by rw [hset_ne _ _ (Ne.symm n3)]; exact c4⟩
  · have : k = D.q - 1 := by omega
    subst this
    simp [k6, k38, k39]
    refine RetP.tup (hkg.trans c1).sub (by rfl) (frz2 (x := .ref b36 0) (y := I 0) (x' := .fp [I p, I m, .fs mo.length (ints mo), I D.q, .fs (D.q - 1) (ints (pwL D gn (D.q - 1))), .fs D.q (ints (logK D gn (D.q - 1)))]) (y' := I 0) ?_ (.id _))
    refine Frz.ref b36 0 _ _ c4 (hkg.no hg36) (by simp) fun j hj hk => ?_
    match j, hj with
    | 0, _ => exact .id _
    | 1, _ => exact .id _
    | 2, _ => exact Frz.slk c2 (hkg.no hgm) (by rw [ints_length]; omega)
    | 3, _ => exact .id _
    | 4, _ => exact .id _
    | 5, _ => exact Frz.slk c3 (hkg.no hg34) (by rw [ints_length, logK_len]; omega)
end Go.AM.Ytmihmgnjnedfcab
end

section
/- Contracts of functions: the reference's digits, divides, irreducible. -/
set_option maxRecDepth 100000
set_option linter.unusedSimpArgs false
set_option linter.unusedVariables false
namespace Go.AM.Ytmihmgnjnedfcab
open Go Go.AM
attribute [local simp ↓] awp_seq awp_reg awp_skip awp_cond awp_block awp_exit awp_ret awp_fz thenW_normal thenW_exit thenW_ret inBlk_normal inBlk_exit inBlk_ret aops_cons aops_nil e_mv e_guard e_pick e_ld e_app e_cpy e_st e_call callW_f updO_some updO_none e_bin e_isnil e_fadr e_iadr e_iarr e_len e_build e_mkf e_nc e_not e_neg e_cvt e_slc e_fld e_ext e_min e_eqs e_new e_box e_mkl e_mks
attribute [local simp] upd_apply ev_t ev_k ev_f binA_add binA_sub binA_mul binA_quo binA_rem binA_eql binA_neq binA_lss binA_leq binA_gtr binA_geq det mem frame0 keeps_nil iadrA_sl fadrA_ref fadrA_fp ldv_agg ldv_one cells_base hset_same hset_hset lenA_fs lenA_sl lenA_nils zeros_ints ints_length one_base one_nilp one_nils one_ref one_sl one_fp one_fs one_fn gl_one resA resOf bound natOf afill splice AV.cells cells_agg bindW_some condW_true condW_false condW_dec condW_ndec guardW_tup guardW_true guardW_true' guardW_false guardW_false' allocW_some pickA_true pickA_false
open Go.FM

/-- The digits of x. -/
theorem s_digits {x p : Int} {m : Nat} (hx : 0 ≤ x ∧ x ≤ 9223372036854775807) (hp : 2 ≤ p) (hm : m ≤ 4294967296) : Pure prog n_ref04_digits [I x, I p, I m] (.fs m (ints (digs p m x))) := by
  refine pure_of cf_ref04_digits rfl fun h => ?_
  have hm' : (m : Int) ≤ 4294967296 := by omega
  simp [hm']
  intro b7 hb7
  have hk0 : Kp h (hset h b7 (ints (List.replicate m 0))) := (Kp.refl h).new hb7 _
  refine awp_for m (fun k fr' h' => Kp h h' ∧ h' b7 = some (ints (digs p k x ++ List.replicate (m - k) 0)) ∧ fr' 8 = I k ∧ fr' 0 = I (dv p k x)) ⟨hk0, by simp [hset_same, digs], by simp, by simp [dv]⟩ ?_
  intro k fr' h' hkn hk ⟨hkp, hb, h13, h0⟩
  have k1 := hk 1 (by decide)
  have k2 := hk 2 (by decide)
  have k7 := hk 7 (by decide)
  simp at k1 k2 k7
  clear hk
  by_cases hlt : k < m
  · have hdr := dv_range hp k hx.1
    have hp0 : p ≠ 0 := by omega
    have e1 : (dv p k x).tmod p = dv p k x % p := Int.tmod_eq_emod_of_nonneg hdr.1
    have e2 : (dv p k x).tdiv p = dv p (k + 1) x := by rw [dv_succ]; exact Int.tdiv_eq_ediv_of_nonneg hdr.1
    have hdr2 := dv_range hp (k + 1) hx.1
    have u1 : IntKind.i64.wrap (dv p (k + 1) x) = dv p (k + 1) x := w64 _ (by omega)
    have u2 : IntKind.i64.wrap ((k : Int) + 1) = k + 1 := w64 _ (by omega)
    have st := fun Q => st_ints_at (v := dv p k x % p) (Q := Q) hb (k := k) (by simp [digs_length]; omega)
    rw [set_mid (digs_length p k x) hlt] at st
    simp [h13, h0, k1, k2, k7, hlt, hp0, e1, e2, u1, u2, st]
    exact ⟨hkp.set hb7 _, by rw [digs_snoc]; simp⟩
  · have : k = m := by omega
    subst this
    simp [h13, k2, k7]
    rw [Nat.sub_self, List.replicate_zero, List.append_nil] at hb
    exact ret_blk hb hb7 hkp (by simp [ints_length, digs_length]) rfl

/-- The rest behind k rounds. -/
def rk (p : Int) (low mo : List Int) : Nat → FM.V
  | 0 => vl (mo ++ [1])
  | k + 1 => dstep p low (mo.length - k) (rk p low mo k)

theorem drun_rk {p : Int} {low mo : List Int} (hd : low.length ≤ mo.length) : ∀ k, k ≤ mo.length + 1 - low.length → drun p low (mo.length + 1 - low.length) (vl (mo ++ [1])) = drun p low (mo.length + 1 - low.length - k) (rk p low mo k)
  | 0, _ => rfl
  | k + 1, hk => by
    rw [drun_rk hd k (by omega)]
    obtain ⟨c, hc⟩ : ∃ c, mo.length + 1 - low.length - k = c + 1 := ⟨mo.length + 1 - low.length - k - 1, by omega⟩
    rw [hc, show mo.length + 1 - low.length - (k + 1) = c by omega]
    simp only [drun, rk]
    rw [show low.length + c = mo.length - k by omega]

theorem vl_getD (l : List Int) (j : Nat) : vl l j = l.getD j 0 := rfl

theorem Dg_append {p : Int} {a b : List Int} (h : Dg p a) (h' : Dg p b) : Dg p (a ++ b) := fun x hx => (List.mem_append.1 hx).elim (h x) (h' x)
theorem Dg_set {p : Int} {l : List Int} (h : Dg p l) {v : Int} (hv : 0 ≤ v ∧ v < p) (k : Nat) : Dg p (l.set k v) := fun y hy => by
  rcases List.mem_or_eq_of_mem_set hy with h1 | rfl
  · exact h y h1
  · exact hv

open Classical in
set_option maxHeartbeats 4000000 in
theorem s_divides {v w : AV} {low mo : List Int} (hv : IL v low) (hw : IL w mo) {p : Nat} (hp : 2 ≤ p) (hp2 : p ≤ 256) (hlow : Dg p low) (hmo : Dg p mo) (h1 : 1 ≤ low.length) (h2 : low.length ≤ mo.length) (h3 : mo.length ≤ 8) :
    Pure prog n_ref04_divides [v, w, I p] (B (decide (Dv p low mo))) := by
  refine pure_of cf_ref04_divides rfl fun h => ?_
  simp [hv.len]
  intro b15 hb15
  refine app_empty (hset_same ..) hw (by omega) fun bm hbm => ?_
  have hgm : h bm = none := by
    rcases hbm with rfl | hbm
    · exact hb15
    · by_cases e : bm = b15
      · rw [e]; exact hb15
      · rwa [hset_ne _ _ e] at hbm
  have ho : Own 1 h (hset (hset h b15 []) bm (ints mo)) (.sl bm 0 mo.length 1) mo.length (ints mo) :=
    ⟨((Kp.refl h).new hb15 _).set hgm _, by simp [ints], .inr ⟨by omega, bm, rfl, hset_same .., hgm⟩⟩
  generalize hset (hset h b15 []) bm (ints mo) = g at *
  intro b19 hb19
  refine ho.app1 (m := 1) hb19 (by simp) (by omega) fun v8 g2 o2 => ?_
  have hc : ∃ c, v8 = .sl c 0 (mo.length + 1) 1 ∧ g2 c = some (ints (mo ++ [1])) ∧ h c = none ∧ Kp h g2 := by
    obtain ⟨q1, q2, q3⟩ := o2
    rcases q3 with ⟨q4, _⟩ | ⟨_, c, q5, q6, q7⟩
    · omega
    · exact ⟨c, q5, by rw [ints_append]; exact q6, q7, q1⟩
  obtain ⟨c, rfl, hg2, hc0, hk2⟩ := hc
  clear ho o2 hb19 hbm hb15 hgm
  have u0 : IntKind.i64.wrap ((mo.length : Int) + 1 - 1) = mo.length := by rw [w64 _ (by omega)]; omega
  have u0b : IntKind.i64.wrap (mo.length : Int) = mo.length := w64 _ (by omega)
  simp [u0]
  refine awp_for (mo.length + 1 - low.length) (fun k fr' h' => Kp h h' ∧ (∃ l, h' c = some (ints l) ∧ l.length = mo.length + 1 ∧ Dg p l ∧ ∀ j, vl l j = rk p low mo k j) ∧ (∃ i : Int, i + k = mo.length ∧ fr' 9 = I i))
    ⟨hk2, ⟨mo ++ [1], hg2, by simp, Dg_append hmo (by intro x hx; simp at hx; omega), fun j => rfl⟩, ⟨(mo.length : Int), by simp, by simp [u0, u0b]⟩⟩ ?_
  intro k fr' h' hkn hk ⟨hkp, ⟨l, hl, hll, hld, hlv⟩, ⟨i, hi, k9⟩⟩
  have k0 := hk 0 (by decide)
  have k2 := hk 2 (by decide)
  have k7 := hk 7 (by decide)
  have k8 := hk 8 (by decide)
  simp at k0 k2 k7 k8
  clear hk
  by_cases hlt : k < mo.length + 1 - low.length
  · obtain ⟨ii, rfl⟩ : ∃ n : Nat, i = n := ⟨i.toNat, by omega⟩
    have hii : ii = mo.length - k := by omega
    have cc : (low.length : Int) ≤ ii := by omega
    have cc2 : low.length ≤ ii := by omega
    have hldi := ld_ints_at hl (k := ii) (by omega)
    have hci := Dg_getD hld (j := ii) (by omega)
    have hrc : l.getD ii 0 = rk p low mo k ii := hlv ii
    have c9 : (ii : Int) < mo.length + 1 := by omega
    have c9' : ii < mo.length + 1 := by omega
    generalize hcv : l.getD ii 0 = cv at *
    simp [k9, k7, k8, cc, cc2, c9, c9', hldi]
    refine awp_for low.length (fun j fr2 h2 => Kp h h2 ∧ (∃ l2, h2 c = some (ints l2) ∧ l2.length = mo.length + 1 ∧ Dg p l2 ∧ ∀ t, vl l2 t = if ii - low.length ≤ t ∧ t < ii - low.length + j then (vl l t + (p - cv) * vl low (t - (ii - low.length))) % p else vl l t) ∧ fr2 11 = I j)
      ⟨hkp, ⟨l, hl, hll, hld, fun t => by rw [if_neg (by omega)]⟩, by simp⟩ ?_
    intro j fr2 h2 hjn hk2 ⟨hkp2, ⟨l2, hl2, hll2, hld2, hlv2⟩, k11⟩
    have m0 := hk2 0 (by decide)
    have m2 := hk2 2 (by decide)
    have m7 := hk2 7 (by decide)
    have m8 := hk2 8 (by decide)
    have m9 := hk2 9 (by decide)
    have m10 := hk2 10 (by decide)
    simp [k0, k2, k7, k8, k9] at m0 m2 m7 m8 m9 m10
    clear hk2
    have u1 : IntKind.i64.wrap ((ii : Int) - low.length) = ii - low.length := w64 _ (by omega)
    by_cases hj : j < low.length
    · have u2 : IntKind.i64.wrap ((ii : Int) - low.length + j) = ((ii - low.length + j : Nat) : Int) := by rw [w64 _ (by omega)]; omega
      have u3 : IntKind.i64.wrap ((p : Int) - cv) = p - cv := w64 _ (by omega)
      have hldt := ld_ints_at hl2 (k := ii - low.length + j) (by omega)
      have hia := hv.iadr (i := j) ⟨by omega, by omega⟩
      simp at hia
      have hldl := fun h' => ld_ints (h := h') hj
      have r1 := Dg_getD hld2 (j := ii - low.length + j) (by omega)
      have r2 := Dg_getD hlow hj
      have e1 : l2.getD (ii - low.length + j) 0 = l.getD (ii - low.length + j) 0 := by
        have := hlv2 (ii - low.length + j)
        rw [if_neg (by omega)] at this
        exact this
      have hst := fun Q v => st_ints_at (v := v) (Q := Q) hl2 (k := ii - low.length + j) (by omega)
      have e2 : low.getD j 0 = vl low j := rfl
      generalize l2.getD (ii - low.length + j) 0 = s at *
      generalize hlj : low.getD j 0 = lj at *
      have b1 : 0 ≤ ((p : Int) - cv) * lj := Int.mul_nonneg (by omega) r2.1
      have b2 : ((p : Int) - cv) * lj ≤ 256 * 256 := Int.mul_le_mul (by omega) (by omega) r2.1 (by omega)
      have u4 : IntKind.i64.wrap (((p : Int) - cv) * lj) = ((p : Int) - cv) * lj := w64 _ (by omega)
      have u5 : IntKind.i64.wrap (s + ((p : Int) - cv) * lj) = s + ((p : Int) - cv) * lj := w64 _ (by omega)
      have u6 : (s + ((p : Int) - cv) * lj).tmod p = (s + ((p : Int) - cv) * lj) % p := Int.tmod_eq_emod_of_nonneg (by omega)
      have u7 : IntKind.i64.wrap ((j : Int) + 1) = j + 1 := w64 _ (by omega)
      have hp0 : (p : Int) ≠ 0 := by omega
      have hp0' : p ≠ 0 := by omega
      have c10 : ((ii - low.length + j : Nat) : Int) < mo.length + 1 := by omega
      have c11 : ii - low.length + j < mo.length + 1 := by omega
      have c12 : (0 : Int) ≤ ((ii - low.length + j : Nat) : Int) := by omega
      have hrm : 0 ≤ (s + ((p : Int) - cv) * lj) % p ∧ (s + ((p : Int) - cv) * lj) % p < p := ⟨Int.emod_nonneg _ hp0, Int.emod_lt_of_pos _ (by omega)⟩
      generalize hnv : (s + ((p : Int) - cv) * lj) % p = nv at *
      have hres : Kp h (hset h2 c (ints (l2.set (ii - low.length + j) nv))) ∧ ∃ l3, (hset h2 c (ints (l2.set (ii - low.length + j) nv))) c = some (ints l3) ∧ l3.length = mo.length + 1 ∧ Dg p l3 ∧ ∀ t, vl l3 t = if ii - low.length ≤ t ∧ t < ii - low.length + (j + 1) then (vl l t + (p - cv) * vl low (t - (ii - low.length))) % p else vl l t := by
        refine ⟨hkp2.set hc0 _, _, hset_same .., by simp [hll2], Dg_set hld2 hrm _, fun t => ?_⟩
        rw [vl_set l2 nv t (by omega)]
        by_cases ht : t = ii - low.length + j
        · subst ht
          rw [if_pos rfl, if_pos (by omega), ← hnv, show ii - low.length + j - (ii - low.length) = j by omega, ← e2, vl_getD, ← e1]
        · rw [if_neg ht, hlv2 t]
          by_cases ht2 : ii - low.length ≤ t ∧ t < ii - low.length + j
          · rw [if_pos ht2, if_pos (by omega)]
          · rw [if_neg ht2, if_neg (by omega)]
      generalize ii - low.length + j = at1 at *
      simp [m0, m2, m7, m8, m9, m10, k11, hj, u1, u2, u3, u4, u5, u6, u7, hldt, hia, hldl, hst, hp0, hp0', c10, c11, c12]
      simpa using hres
    · have : j = low.length := by omega
      subst this
      have hst := fun Q => st_ints_at (v := 0) (Q := Q) hl2 (k := ii) (by omega)
      have u7 : IntKind.i64.wrap ((ii : Int) - 1) = ii - 1 := w64 _ (by omega)
      simp [m7, m8, m9, k11, hst, c9, c9', u7, hlt]
      refine ⟨hkp2.set hc0 _, ⟨l2.set ii 0, by simp [hset_same], by simp [hll2], Dg_set hld2 (by omega) _, fun t => ?_⟩, by omega⟩
      rw [vl_set l2 0 t (by omega)]
      simp only [rk, dstep]
      rw [← hii]
      by_cases ht : t = ii
      · rw [if_pos ht, if_pos ht]
      · rw [if_neg ht, if_neg ht, hlv2 t, ← hlv ii, ← hlv t]
        by_cases ht2 : ii - low.length ≤ t ∧ t < ii
        · rw [if_pos (by omega), if_pos ht2, vl_getD l ii, hcv]
        · rw [if_neg (by omega), if_neg ht2]
  · have hke : k = mo.length + 1 - low.length := by omega
    have cc : ¬ (low.length : Int) ≤ i := by omega
    have hrun := drun_rk (p := p) h2 k (by omega)
    rw [hke, Nat.sub_self] at hrun
    rw [← hke] at hrun
    simp only [drun] at hrun
    have hDv : Dv p low mo ↔ ∀ j, j < mo.length + 1 → l.getD j 0 = 0 := by
      unfold Dv
      rw [← hke, hrun]
      constructor
      · intro hh j _; rw [← vl_getD, hlv]; exact hh j
      · intro hh j
        rw [← hlv]
        by_cases hj : j < mo.length + 1
        · exact hh j hj
        · simp only [vl, List.getD]; rw [List.getElem?_eq_none (by omega)]; rfl
    simp [k9, k7, cc]
    refine awp_for (mo.length + 1) (fun j fr2 h2 => h2 = h' ∧ fr2 12 = I j ∧ ∀ t, t < j → l.getD t 0 = 0) ⟨rfl, by simp, fun t ht => by omega⟩ ?_
    intro j fr2 h2 hjn hk2 ⟨hh, k12, hz⟩
    subst hh
    have m8 := hk2 8 (by decide)
    simp [k8] at m8
    clear hk2
    by_cases hj : j < mo.length + 1
    · have hj' : (j : Int) < mo.length + 1 := by omega
      have hldj := ld_ints_at hl (k := j) (by omega)
      have u7 : IntKind.i64.wrap ((j : Int) + 1) = j + 1 := w64 _ (by omega)
      by_cases hz2 : l.getD j 0 = 0
      · rw [hz2] at hldj
        simp [m8, k12, hj, hj', hldj, u7, -List.getD_eq_getElem?_getD]
        intro t ht
        by_cases htj : t = j
        · subst htj; exact hz2
        · exact hz t (by omega)
      · generalize hlj : l.getD j 0 = y at *
        simp [m8, k12, hj, hj', hldj, hz2]
        rw [show decide (Dv p low mo) = false from decide_eq_false fun hd => hz2 (by rw [← hlj]; exact hDv.1 hd j hj)]
        exact ⟨_, hkp.sub, .id _, rfl⟩
    · have hj' : ¬ (j : Int) < mo.length + 1 := by omega
      simp [m8, k12, hj']
      rw [show decide (Dv p low mo) = true from decide_eq_true (hDv.2 fun t ht => hz t (by omega))]
      exact ⟨_, hkp.sub, .id _, rfl⟩
end Go.AM.Ytmihmgnjnedfcab
end

section
/- Contracts of functions: the reference's irreducible and Check. -/
set_option maxRecDepth 100000
set_option linter.unusedSimpArgs false
set_option linter.unusedVariables false
namespace Go.AM.Ytmihmgnjnedfcab
open Go Go.AM
attribute [local simp ↓] awp_seq awp_reg awp_skip awp_cond awp_block awp_exit awp_ret awp_fz thenW_normal thenW_exit thenW_ret inBlk_normal inBlk_exit inBlk_ret aops_cons aops_nil e_mv e_guard e_pick e_ld e_app e_cpy e_st e_call callW_f updO_some updO_none e_bin e_isnil e_fadr e_iadr e_iarr e_len e_build e_mkf e_nc e_not e_neg e_cvt e_slc e_fld e_ext e_min e_eqs e_new e_box e_mkl e_mks
attribute [local simp] upd_apply ev_t ev_k ev_f binA_add binA_sub binA_mul binA_quo binA_rem binA_eql binA_neq binA_lss binA_leq binA_gtr binA_geq det mem frame0 keeps_nil iadrA_sl fadrA_ref fadrA_fp ldv_agg ldv_one cells_base hset_same hset_hset lenA_fs lenA_sl lenA_nils zeros_ints ints_length one_base one_nilp one_nils one_ref one_sl one_fp one_fs one_fn gl_one resA resOf bound natOf afill splice AV.cells cells_agg bindW_some condW_true condW_false condW_dec condW_ndec guardW_tup guardW_true guardW_true' guardW_false guardW_false' allocW_some pickA_true pickA_false
open Go.FM

open Classical in
set_option maxHeartbeats 2000000 in
theorem s_irreducible {w : AV} {mo : List Int} (hw : IL w mo) {p : Nat} (hp : 2 ≤ p) (hp2 : p ≤ 256) (hmo : Dg p mo) (h3 : mo.length ≤ 8) (hq : (p : Int) ^ mo.length ≤ 256) :
    Pure prog n_ref04_irreducible [w, I p] (B (decide (Irr p mo))) := by
  refine pure_of cf_ref04_irreducible rfl fun h => ?_
  have hpI : (2 : Int) ≤ p := by omega
  simp
  refine awp_for (mo.length / 2) (fun k fr' h' => h' = h ∧ fr' 6 = I (k + 1) ∧ fr' 5 = I (p ^ k) ∧ ∀ d v : Nat, 1 ≤ d → d ≤ k → (v : Int) < p ^ d → ¬ Dv p (digs p d v) mo)
    ⟨rfl, by simp, by simp, fun d v h1 h2 => by omega⟩ ?_
  intro k fr' h' hkn hk ⟨hh, k6, k5, hx⟩
  subst hh
  have k0 := hk 0 (by decide)
  have k1 := hk 1 (by decide)
  simp at k0 k1
  clear hk
  have u1 : IntKind.i64.wrap (2 * ((k : Int) + 1)) = 2 * (k + 1) := w64 _ (by omega)
  by_cases hc : 2 * (k + 1) ≤ mo.length
  case neg =>
    have hc' : ¬ 2 * ((k : Int) + 1) ≤ mo.length := by omega
    simp [k6, k0, hw.len, u1, hc']
    rw [show decide (Irr p mo) = true from decide_eq_true fun d v h1 h2 h3 => hx d v h1 (by omega) h3]
    exact RetP.same
  have hc' : 2 * ((k : Int) + 1) ≤ mo.length := by omega
  have hple : (p : Int) ^ (k + 1) ≤ 256 := Int.le_trans (pow_mono hpI (by omega)) hq
  have hpp := pow_pos2 hpI (k + 1)
  have hps : (p : Int) ^ (k + 1) = p ^ k * p := Int.pow_succ ..
  have u2 : IntKind.i64.wrap ((p : Int) ^ k * p) = p ^ (k + 1) := by rw [← hps]; exact w64 _ (by omega)
  obtain ⟨C, hC⟩ : ∃ C : Nat, (p : Int) ^ (k + 1) = C := ⟨((p : Int) ^ (k + 1)).toNat, by omega⟩
  rw [hC] at u2
  simp [k6, k5, k0, k1, hw.len, u1, hc', u2]
  refine awp_for C (fun v fr2 h2 => h2 = h' ∧ fr2 7 = I v ∧ ∀ t : Nat, t < v → ¬ Dv p (digs p (k + 1) t) mo) ⟨rfl, by simp, fun t ht => by omega⟩ ?_
  intro v fr2 h2 hvn hk2 ⟨hh, k7, hz⟩
  subst hh
  have m0 := hk2 0 (by decide)
  have m1 := hk2 1 (by decide)
  have m5 := hk2 5 (by decide)
  have m6 := hk2 6 (by decide)
  simp [k0, k1, k6, k5] at m0 m1 m5 m6
  clear hk2
  by_cases hv : v < C
  · have hv' : (v : Int) < C := by omega
    have hdl := digs_length (p : Int) (k + 1) v
    have hIL := IL.fs (digs (p : Int) (k + 1) v)
    rw [hdl] at hIL
    have hcall := s_digits (x := (v : Int)) (p := (p : Int)) (m := k + 1) ⟨by omega, by omega⟩ hpI (by omega)
    have hk1' : (((k + 1 : Nat) : Int)) = (k : Int) + 1 := by omega
    rw [hk1'] at hcall
    simp [k7, m0, m1, m5, m6, hv']
    refine hcall.call ?_
    refine (s_divides hIL hw hp hp2 (digs_Dg (by omega) _ _) hmo (by rw [hdl]; omega) (by rw [hdl]; omega) h3).call ?_
    by_cases hd : Dv p (digs p (k + 1) v) mo
    · simp [hd]
      rw [show decide (Irr p mo) = false from decide_eq_false fun hi => hi (k + 1) v (by omega) hc (by rw [hC]; omega) hd]
      exact RetP.same
    · have u3 : IntKind.i64.wrap ((v : Int) + 1) = v + 1 := w64 _ (by omega)
      simp [hd, k7, u3]
      refine ⟨hv, fun t ht => ?_⟩
      by_cases htv : t = v
      · subst htv; exact hd
      · exact hz t (by omega)
  · have hv' : ¬ (v : Int) < C := by omega
    have : v = C := by omega
    have u3 : IntKind.i64.wrap ((k : Int) + 1 + 1) = k + 1 + 1 := w64 _ (by omega)
    simp [k7, m5, m6, hv', u3, hC]
    refine ⟨by omega, fun d t h1 h2 h4 => ?_⟩
    by_cases hdk : d = k + 1
    · subst hdk
      rw [hC] at h4
      exact hz t (by omega)
    · exact hx d t h1 (by omega) h4

open Classical in
/-- The reference's answer on a description. -/
noncomputable def fieldE (p m : Int) (mo : List Int) : Int := if FieldP p m mo then 0 else 1

open Classical in
theorem s_refCheck (p m : Int) {mv : AV} {mo : List Int} (hmv : IL mv mo) (hml : mo.length < 4611686018427387904) : Pure prog n_ref04_Check [.agg [I p, I m, mv]] (I (fieldE p m mo)) := by
  refine pure_of cf_ref04_Check rfl fun h => ?_
  have hone := hmv.one
  simp [hone]
  intro b1 hb1
  obtain ⟨l0, l1, l2, l3⟩ := ld3_at (hset_same h b1 [I p, I m, mv])
  have hkg : Kp h (hset h b1 [I p, I m, mv]) := (Kp.refl h).new hb1 _
  generalize hset h b1 [I p, I m, mv] = g at *
  have bad : ¬ FieldP p m mo → RetP h (I (fieldE p m mo)) (I 1) g := fun hb => by
    rw [fieldE, if_neg hb]; exact ⟨_, hkg.sub, .id _, rfl⟩
  have good : FieldP p m mo → RetP h (I (fieldE p m mo)) (I 0) g := fun hb => by
    rw [fieldE, if_pos hb]; exact ⟨_, hkg.sub, .id _, rfl⟩
  simp [l3]
  refine (s_Order p m hone).call ?_
  by_cases d0 : ordE p m = 0
  · simp [d0]
    exact bad fun hs => hs.1.1 d0
  have h1 := ordE_ne d0
  simp [d0, l0]
  obtain ⟨pn, rfl⟩ : ∃ n : Nat, p = n := ⟨p.toNat, by omega⟩
  refine (s_prime pn (by omega) (by omega)).call ?_
  by_cases d1 : IsP pn
  case neg =>
    simp [d1]
    exact bad fun hs => d1 (by simpa using hs.1.2.1)
  by_cases d2 : m = 1
  · subst d2
    by_cases d3 : mo = []
    · subst d3
      simp [d1, l1, l2, hmv.len]
      exact good ⟨⟨d0, by simpa using d1, by rw [if_pos rfl]⟩, .inl rfl⟩
    · have d3' : ¬ mo.length = 0 := fun hc => d3 (List.eq_nil_of_length_eq_zero hc)
      simp [d1, l1, l2, hmv.len, d3, d3']
      exact bad fun hs => by have := hs.1.2.2; rw [if_pos rfl] at this; exact d3 this
  by_cases d3 : (mo.length : Int) = m
  case neg =>
    simp [d1, l1, d2, l2, hmv.len, d3]
    exact bad fun hs => by have := hs.1.2.2; rw [if_neg d2] at this; exact d3 this.1
  simp [d1, l1, d2, l2, hmv.len, d3]
  refine awp_for mo.length (fun k fr' h' => h' = g ∧ fr' 3 = I k ∧ ∀ c ∈ mo.take k, 0 ≤ c ∧ c < (pn : Int)) ⟨rfl, by simp, by simp⟩ ?_
  intro k fr' h' hkn hk ⟨hh, k3, hx⟩
  subst hh
  have k1 := hk 1 (by decide)
  simp at k1
  clear hk
  by_cases hlt : k < mo.length
  · have hlt' : (k : Int) < m := by omega
    have hia := hmv.iadr (i := k) ⟨by omega, by omega⟩
    simp at hia
    have hld := fun h' => ld_ints (h := h') hlt
    have hmem : mo.getD k 0 ∈ mo := by simp only [List.getD, List.getElem?_eq_getElem hlt, Option.getD_some]; exact List.getElem_mem hlt
    have htk : mo.take (k + 1) = mo.take k ++ [mo.getD k 0] := by rw [List.take_succ_eq_append_getElem hlt]; simp [List.getD, hlt]
    rw [htk]
    generalize mo.getD k 0 = y at *
    by_cases e1 : y < 0
    · simp [k1, k3, hlt', l0, l1, l2, hia, hld, e1]
      exact bad fun hs => by have := hs.1.2.2; rw [if_neg d2] at this; have := this.2 y hmem; omega
    by_cases e2 : (pn : Int) ≤ y
    · simp [k1, k3, hlt', l0, l1, l2, hia, hld, e1, e2]
      exact bad fun hs => by have := hs.1.2.2; rw [if_neg d2] at this; have := this.2 y hmem; omega
    have u1 : IntKind.i64.wrap ((k : Int) + 1) = k + 1 := w64 _ (by omega)
    simp [k1, k3, hlt', l0, l1, l2, hia, hld, e1, e2, u1]
    refine ⟨by omega, fun c hc => ?_⟩
    rcases hc with hc | hc
    · exact hx c hc
    · omega
  · have : k = mo.length := by omega
    subst this
    have hlt' : ¬ ((mo.length : Nat) : Int) < m := by omega
    rw [List.take_length] at hx
    have hsh : ShapeP pn m mo := ⟨d0, by simpa using d1, by rw [if_neg d2]; exact ⟨d3, hx⟩⟩
    have hpw : (pn : Int) ^ mo.length ≤ 256 := by
      have := h1.2.2.2.2.1
      rwa [show m.toNat = mo.length by omega] at this
    simp [k1, k3, hlt', l0, l1, l2]
    refine (s_irreducible hmv (by omega) (by omega) hx (by omega) hpw).call ?_
    by_cases di : Irr pn mo
    · simp [di]
      exact good ⟨hsh, .inr di⟩
    · simp [di]
      exact bad fun hs => by rcases hs.2 with hs | hs; exact d2 hs; exact di hs
end Go.AM.Ytmihmgnjnedfcab
end

section
/- Codes of the program, as the conversion gives them. -/
set_option maxRecDepth 100000
namespace Go.AM.Ytmihmgnjnedfcab
open Go Go.AM
-- field_GF_Is
abbrev c_field_GF_Is_2 : SC := .ret
abbrev c_field_GF_Is_1 : SC := .seq (.reg [o 5 (.mv (.t 1)), o 6 (.bin .geq (.t 5) (ki 0)), o 7 (.mv (.t 6)), og 7 true 0 8 (.mv (.t 1)), og 7 true 0 9 (.mv (.t 0)), og 7 true 0 10 (.nc (.t 9)), og 7 true 0 11 (.fadr (.t 10) 3), og 7 true 0 12 (.ld (.t 11) 1 false), og 7 true 0 13 (.bin .lss (.t 8) (.t 12)), o 14 (.pick (.t 7) (.t 13) (kb false)), o 4 (.mv (.t 14))]) c_field_GF_Is_2
abbrev c_field_GF_Is_0 : SC := .seq (.reg [o 4 (.mv (kb false))]) c_field_GF_Is_1
theorem cf_field_GF_Is : cfun Go.Proofs.Try.prog md n_field_GF_Is = some ⟨2, 15, c_field_GF_Is_0.erase, [.t 4]⟩ := by kernel_rfl
-- field_GF_in
abbrev c_field_GF_in_3 : SC := .ret
abbrev c_field_GF_in_2 : SC := .seq (.reg [o 4 (.mv (ki 0))]) c_field_GF_in_3
abbrev c_field_GF_in_1 : SC := .seq (.seq (.reg [o 5 (.mv (.t 0)), o 6 (.mv (.t 1)), o 7 (.call (.f n_field_GF_Is) [.t 5, .t 6])]) (.cond (.t 7) (.seq (.reg [o 8 (.mv (.t 1)), o 4 (.mv (.t 8))]) .ret) .skip)) c_field_GF_in_2
abbrev c_field_GF_in_0 : SC := .seq (.reg [o 4 (.mv (ki 0))]) c_field_GF_in_1
theorem cf_field_GF_in : cfun Go.Proofs.Try.prog md n_field_GF_in = some ⟨2, 9, c_field_GF_in_0.erase, [.t 4]⟩ := by kernel_rfl
-- field_GF_Pow
abbrev c_field_GF_Pow_6 : SC := .ret
abbrev c_field_GF_Pow_5 : SC := .seq (.reg [o 37 (.mv (.t 0)), o 38 (.nc (.t 37)), o 39 (.fadr (.t 38) 4), o 41 (.mv (.t 0)), o 42 (.nc (.t 41)), o 43 (.fadr (.t 42) 5), o 45 (.mv (.t 1)), o 48 (.mv (.t 2)), o 50 (.mv (.t 8)), o 40 (.ld (.t 39) 1 false), o 44 (.ld (.t 43) 1 false), o 46 (.iadr (.t 44) (.t 45) 1), o 47 (.ld (.t 46) 1 false), o 49 (.bin .mul (.t 47) (.t 48)), o 51 (.bin .rem (.t 49) (.t 50)), o 52 (.iadr (.t 40) (.t 51) 1), o 53 (.ld (.t 52) 1 false), o 6 (.mv (.t 53)), o 7 (.mv (ki 0))]) c_field_GF_Pow_6
abbrev c_field_GF_Pow_4 : SC := .seq (.reg [o 30 (.mv (.t 2)), o 31 (.mv (.t 8)), o 32 (.bin .rem (.t 30) (.t 31)), o 33 (.mv (.t 8)), o 34 (.bin .add (.t 32) (.t 33)), o 35 (.mv (.t 8)), o 36 (.bin .rem (.t 34) (.t 35)), o 2 (.mv (.t 36))]) c_field_GF_Pow_5
abbrev c_field_GF_Pow_3 : SC := .seq (.reg [o 25 (.mv (.t 0)), o 26 (.nc (.t 25)), o 27 (.fadr (.t 26) 3), o 28 (.ld (.t 27) 1 false), o 29 (.bin .sub (.t 28) (ki 1)), o 8 (.mv (.t 29))]) c_field_GF_Pow_4
abbrev c_field_GF_Pow_2 : SC := .seq (.block 0 (.seq (.reg [o 13 (.mv (.t 2)), o 14 (.bin .eql (.t 13) (ki 0)), o 12 (.mv (.t 14))]) (.cond (.t 12) (.seq (.reg [o 6 (.mv (ki 1)), o 7 (.mv (ki 0))]) .ret) (.seq (.reg [o 16 (.mv (.t 1)), o 17 (.bin .eql (.t 16) (ki 0)), o 18 (.mv (.t 17)), og 18 true 0 19 (.mv (.t 2)), og 18 true 0 20 (.bin .lss (.t 19) (ki 0)), o 21 (.pick (.t 18) (.t 20) (kb false)), o 15 (.mv (.t 21))]) (.cond (.t 15) (.seq (.reg [o 6 (.mv (ki 0)), o 7 (.mv (ki 7))]) .ret) (.seq (.reg [o 23 (.mv (.t 1)), o 24 (.bin .eql (.t 23) (ki 0)), o 22 (.mv (.t 24))]) (.cond (.t 22) (.seq (.reg [o 6 (.mv (ki 0)), o 7 (.mv (ki 0))]) .ret) .skip))))))) c_field_GF_Pow_3
abbrev c_field_GF_Pow_1 : SC := .seq (.reg [o 9 (.mv (.t 0)), o 10 (.mv (.t 1)), o 11 (.call (.f n_field_GF_in) [.t 9, .t 10]), o 1 (.mv (.t 11))]) c_field_GF_Pow_2
abbrev c_field_GF_Pow_0 : SC := .seq (.reg [o 6 (.mv (ki 0)), o 7 (.mv (ki 0))]) c_field_GF_Pow_1
theorem cf_field_GF_Pow : cfun Go.Proofs.Try.prog md n_field_GF_Pow = some ⟨3, 54, c_field_GF_Pow_0.erase, [.t 6, .t 7]⟩ := by kernel_rfl
-- ref04_Is
abbrev c_ref04_Is_2 : SC := .ret
abbrev c_ref04_Is_1 : SC := .seq (.reg [o 5 (.mv (.t 1)), o 6 (.bin .geq (.t 5) (ki 0)), o 7 (.mv (.t 6)), og 7 true 0 8 (.mv (.t 1)), og 7 true 0 9 (.ld (.t 2) 3 true), og 7 true 0 10 (.call (.f n_ref04_Order) [.t 9]), og 7 true 0 11 (.bin .lss (.t 8) (.t 10)), o 12 (.pick (.t 7) (.t 11) (kb false)), o 4 (.mv (.t 12))]) c_ref04_Is_2
abbrev c_ref04_Is_0 : SC := .seq (.reg [o 2 (.box (.t 0)), o 4 (.mv (kb false))]) c_ref04_Is_1
theorem cf_ref04_Is : cfun Go.Proofs.Try.prog md n_ref04_Is = some ⟨2, 13, c_ref04_Is_0.erase, [.t 4]⟩ := by kernel_rfl
-- ref04_In
abbrev c_ref04_In_3 : SC := .ret
abbrev c_ref04_In_2 : SC := .seq (.reg [o 4 (.mv (ki 0))]) c_ref04_In_3
abbrev c_ref04_In_1 : SC := .seq (.seq (.reg [o 5 (.ld (.t 2) 3 true), o 6 (.mv (.t 1)), o 7 (.call (.f n_ref04_Is) [.t 5, .t 6])]) (.cond (.t 7) (.seq (.reg [o 8 (.mv (.t 1)), o 4 (.mv (.t 8))]) .ret) .skip)) c_ref04_In_2
abbrev c_ref04_In_0 : SC := .seq (.reg [o 2 (.box (.t 0)), o 4 (.mv (ki 0))]) c_ref04_In_1
theorem cf_ref04_In : cfun Go.Proofs.Try.prog md n_ref04_In = some ⟨2, 9, c_ref04_In_0.erase, [.t 4]⟩ := by kernel_rfl
-- ref04_Digits
abbrev c_ref04_Digits_2 : SC := .ret
abbrev c_ref04_Digits_1 : SC := .seq (.reg [o 6 (.mv (.t 1)), o 8 (.fadr (.t 2) 0), o 10 (.fadr (.t 2) 1), o 5 (.ld (.t 2) 3 true), o 9 (.ld (.t 8) 1 false), o 11 (.ld (.t 10) 1 false), om 1 7 (.call (.f n_ref04_In) [.t 5, .t 6]), om 2 12 (.call (.f n_ref04_digits) [.t 7, .t 9, .t 11]), o 4 (.mv (.t 12))]) c_ref04_Digits_2
abbrev c_ref04_Digits_0 : SC := .seq (.reg [o 2 (.box (.t 0)), o 4 (.mv (.k .nils))]) c_ref04_Digits_1
theorem cf_ref04_Digits : cfun Go.Proofs.Try.prog md n_ref04_Digits = some ⟨2, 13, c_ref04_Digits_0.erase, [.t 4]⟩ := by kernel_rfl
-- ref04_Mul
abbrev c_ref04_MulL1_2 : SC := (.reg [o 35 (.mv (.t 11)), o 36 (.bin .add (.t 35) (ki 1)), o 11 (.mv (.t 36))])
abbrev c_ref04_MulL1_1 : SC := .seq (.block 3 (.reg [o 37 (.mv (.t 9)), o 38 (.mv (.t 10)), o 39 (.mv (.t 11)), o 40 (.bin .add (.t 38) (.t 39)), o 41 (.mv (.t 9)), o 42 (.mv (.t 10)), o 43 (.mv (.t 11)), o 44 (.bin .add (.t 42) (.t 43)), o 45 (.iadr (.t 41) (.t 44) 1), o 47 (.mv (.t 7)), o 48 (.mv (.t 10)), o 49 (.iadr (.t 47) (.t 48) 1), o 51 (.mv (.t 8)), o 52 (.mv (.t 11)), o 53 (.iadr (.t 51) (.t 52) 1), o 57 (.fadr (.t 3) 0), o 46 (.ld (.t 45) 1 false), o 50 (.ld (.t 49) 1 false), o 54 (.ld (.t 53) 1 false), o 55 (.bin .mul (.t 50) (.t 54)), o 56 (.bin .add (.t 46) (.t 55)), o 58 (.ld (.t 57) 1 false), o 59 (.bin .rem (.t 56) (.t 58)), o 60 (.iadr (.t 37) (.t 40) 1), os (.st (.t 60) (.t 59) 1)])) c_ref04_MulL1_2
abbrev c_ref04_MulL1_0 : SC := .seq (.seq (.reg [o 31 (.mv (.t 11)), o 32 (.fadr (.t 3) 1), o 33 (.ld (.t 32) 1 false), o 34 (.bin .lss (.t 31) (.t 33))]) (.cond (.t 34) .skip (.exit 2))) c_ref04_MulL1_1
abbrev c_ref04_MulL0_2 : SC := (.reg [o 29 (.mv (.t 10)), o 30 (.bin .add (.t 29) (ki 1)), o 10 (.mv (.t 30))])
abbrev c_ref04_MulL0_1 : SC := .seq (.block 1 (.seq (.reg [o 11 (.mv (ki 0))]) (.block 2 (.loop c_ref04_MulL1_0)))) c_ref04_MulL0_2
abbrev c_ref04_MulL0_0 : SC := .seq (.seq (.reg [o 25 (.mv (.t 10)), o 26 (.fadr (.t 3) 1), o 27 (.ld (.t 26) 1 false), o 28 (.bin .lss (.t 25) (.t 27))]) (.cond (.t 28) .skip (.exit 0))) c_ref04_MulL0_1
abbrev c_ref04_MulL3_2 : SC := (.reg [o 75 (.mv (.t 13)), o 76 (.bin .add (.t 75) (ki 1)), o 13 (.mv (.t 76))])
abbrev c_ref04_MulL3_1 : SC := .seq (.block 7 (.reg [o 77 (.mv (.t 9)), o 78 (.mv (.t 12)), o 79 (.fadr (.t 3) 1), o 82 (.mv (.t 13)), o 84 (.mv (.t 9)), o 85 (.mv (.t 12)), o 86 (.fadr (.t 3) 1), o 89 (.mv (.t 13)), o 93 (.fadr (.t 3) 0), o 95 (.mv (.t 9)), o 96 (.mv (.t 12)), o 97 (.iadr (.t 95) (.t 96) 1), o 100 (.fadr (.t 3) 2), o 102 (.mv (.t 13)), o 107 (.fadr (.t 3) 0), o 80 (.ld (.t 79) 1 false), o 81 (.bin .sub (.t 78) (.t 80)), o 83 (.bin .add (.t 81) (.t 82)), o 87 (.ld (.t 86) 1 false), o 88 (.bin .sub (.t 85) (.t 87)), o 90 (.bin .add (.t 88) (.t 89)), o 91 (.iadr (.t 84) (.t 90) 1), o 92 (.ld (.t 91) 1 false), o 94 (.ld (.t 93) 1 false), o 98 (.ld (.t 97) 1 false), o 99 (.bin .sub (.t 94) (.t 98)), o 101 (.ld (.t 100) 1 false), o 103 (.iadr (.t 101) (.t 102) 1), o 104 (.ld (.t 103) 1 false), o 105 (.bin .mul (.t 99) (.t 104)), o 106 (.bin .add (.t 92) (.t 105)), o 108 (.ld (.t 107) 1 false), o 109 (.bin .rem (.t 106) (.t 108)), o 110 (.iadr (.t 77) (.t 83) 1), os (.st (.t 110) (.t 109) 1)])) c_ref04_MulL3_2
abbrev c_ref04_MulL3_0 : SC := .seq (.seq (.reg [o 71 (.mv (.t 13)), o 72 (.fadr (.t 3) 1), o 73 (.ld (.t 72) 1 false), o 74 (.bin .lss (.t 71) (.t 73))]) (.cond (.t 74) .skip (.exit 6))) c_ref04_MulL3_1
abbrev c_ref04_MulL2_2 : SC := (.reg [o 69 (.mv (.t 12)), o 70 (.bin .sub (.t 69) (ki 1)), o 12 (.mv (.t 70))])
abbrev c_ref04_MulL2_1 : SC := .seq (.block 5 (.seq (.reg [o 13 (.mv (ki 0))]) (.block 6 (.loop c_ref04_MulL3_0)))) c_ref04_MulL2_2
abbrev c_ref04_MulL2_0 : SC := .seq (.seq (.reg [o 65 (.mv (.t 12)), o 66 (.fadr (.t 3) 1), o 67 (.ld (.t 66) 1 false), o 68 (.bin .geq (.t 65) (.t 67))]) (.cond (.t 68) .skip (.exit 4))) c_ref04_MulL2_1
abbrev c_ref04_Mul_7 : SC := .ret
abbrev c_ref04_Mul_6 : SC := .fz [9] (.seq (.reg [o 112 (.mv (.t 9)), o 113 (.fadr (.t 3) 1), o 111 (.ld (.t 3) 3 true), o 114 (.ld (.t 113) 1 false), o 115 (.slc (.t 112) none (some (.t 114)) none 1), om 1 116 (.call (.f n_ref04_Value) [.t 111, .t 115]), o 6 (.mv (.t 116))]) c_ref04_Mul_7)
abbrev c_ref04_Mul_5 : SC := .seq (.seq (.reg [o 61 (.fadr (.t 3) 1), o 62 (.ld (.t 61) 1 false), o 63 (.bin .mul (ki 2) (.t 62)), o 64 (.bin .sub (.t 63) (ki 2)), o 12 (.mv (.t 64))]) (.block 4 (.loop c_ref04_MulL2_0))) c_ref04_Mul_6
abbrev c_ref04_Mul_4 : SC := .seq (.seq (.reg [o 10 (.mv (ki 0))]) (.block 0 (.loop c_ref04_MulL0_0))) c_ref04_Mul_5
abbrev c_ref04_Mul_3 : SC := .seq (.reg [o 20 (.fadr (.t 3) 1), o 21 (.ld (.t 20) 1 false), o 22 (.bin .mul (ki 2) (.t 21)), o 23 (.bin .sub (.t 22) (ki 1)), o 24 (.mks (.t 23) 1 [I 0]), o 9 (.mv (.t 24))]) c_ref04_Mul_4
abbrev c_ref04_Mul_2 : SC := .seq (.reg [o 17 (.ld (.t 3) 3 true), o 18 (.mv (.t 2)), o 19 (.call (.f n_ref04_Digits) [.t 17, .t 18]), o 8 (.mv (.t 19))]) c_ref04_Mul_3
abbrev c_ref04_Mul_1 : SC := .seq (.reg [o 14 (.ld (.t 3) 3 true), o 15 (.mv (.t 1)), o 16 (.call (.f n_ref04_Digits) [.t 14, .t 15]), o 7 (.mv (.t 16))]) c_ref04_Mul_2
abbrev c_ref04_Mul_0 : SC := .seq (.reg [o 3 (.box (.t 0)), o 6 (.mv (ki 0))]) c_ref04_Mul_1
theorem cf_ref04_Mul : cfun Go.Proofs.Try.prog md n_ref04_Mul = some ⟨3, 117, c_ref04_Mul_0.erase, [.t 6]⟩ := by kernel_rfl
-- ref04_Pow
abbrev c_ref04_PowL0_2 : SC := (.reg [o 37 (.mv (.t 10)), o 38 (.bin .add (.t 37) (ki 1)), o 10 (.mv (.t 38))])
abbrev c_ref04_PowL0_1 : SC := .seq (.block 1 (.reg [o 39 (.ld (.t 3) 3 true), o 40 (.mv (.t 9)), o 41 (.mv (.t 1)), o 42 (.call (.f n_ref04_Mul) [.t 39, .t 40, .t 41]), o 9 (.mv (.t 42))])) c_ref04_PowL0_2
abbrev c_ref04_PowL0_0 : SC := .seq (.seq (.reg [o 34 (.mv (.t 10)), o 35 (.mv (.t 2)), o 36 (.bin .lss (.t 34) (.t 35))]) (.cond (.t 36) .skip (.exit 0))) c_ref04_PowL0_1
abbrev c_ref04_Pow_10 : SC := .ret
abbrev c_ref04_Pow_9 : SC := .seq (.reg [o 43 (.mv (.t 9)), o 6 (.mv (.t 43)), o 7 (.mv (ki 0))]) c_ref04_Pow_10
abbrev c_ref04_Pow_8 : SC := .seq (.seq (.reg [o 10 (.mv (ki 0))]) (.block 0 (.loop c_ref04_PowL0_0))) c_ref04_Pow_9
abbrev c_ref04_Pow_7 : SC := .seq (.reg [o 9 (.mv (ki 1))]) c_ref04_Pow_8
abbrev c_ref04_Pow_6 : SC := .seq (.reg [o 27 (.mv (.t 2)), o 28 (.mv (.t 8)), o 29 (.bin .rem (.t 27) (.t 28)), o 30 (.mv (.t 8)), o 31 (.bin .add (.t 29) (.t 30)), o 32 (.mv (.t 8)), o 33 (.bin .rem (.t 31) (.t 32)), o 2 (.mv (.t 33))]) c_ref04_Pow_7
abbrev c_ref04_Pow_5 : SC := .seq (.reg [o 24 (.ld (.t 3) 3 true), o 25 (.call (.f n_ref04_Order) [.t 24]), o 26 (.bin .sub (.t 25) (ki 1)), o 8 (.mv (.t 26))]) c_ref04_Pow_6
abbrev c_ref04_Pow_4 : SC := .seq (.seq (.reg [o 22 (.mv (.t 1)), o 23 (.bin .eql (.t 22) (ki 0))]) (.cond (.t 23) (.seq (.reg [o 6 (.mv (ki 0)), o 7 (.mv (ki 0))]) .ret) .skip)) c_ref04_Pow_5
abbrev c_ref04_Pow_3 : SC := .seq (.seq (.reg [o 16 (.mv (.t 1)), o 17 (.bin .eql (.t 16) (ki 0)), o 18 (.mv (.t 17)), og 18 true 0 19 (.mv (.t 2)), og 18 true 0 20 (.bin .lss (.t 19) (ki 0)), o 21 (.pick (.t 18) (.t 20) (kb false))]) (.cond (.t 21) (.seq (.reg [o 6 (.mv (ki 0)), o 7 (.mv (ki 7))]) .ret) .skip)) c_ref04_Pow_4
abbrev c_ref04_Pow_2 : SC := .seq (.seq (.reg [o 14 (.mv (.t 2)), o 15 (.bin .eql (.t 14) (ki 0))]) (.cond (.t 15) (.seq (.reg [o 6 (.mv (ki 1)), o 7 (.mv (ki 0))]) .ret) .skip)) c_ref04_Pow_3
abbrev c_ref04_Pow_1 : SC := .seq (.reg [o 11 (.ld (.t 3) 3 true), o 12 (.mv (.t 1)), o 13 (.call (.f n_ref04_In) [.t 11, .t 12]), o 1 (.mv (.t 13))]) c_ref04_Pow_2
abbrev c_ref04_Pow_0 : SC := .seq (.reg [o 3 (.box (.t 0)), o 6 (.mv (ki 0)), o 7 (.mv (ki 0))]) c_ref04_Pow_1
theorem cf_ref04_Pow : cfun Go.Proofs.Try.prog md n_ref04_Pow = some ⟨3, 44, c_ref04_Pow_0.erase, [.t 6, .t 7]⟩ := by kernel_rfl
-- ref52_power
abbrev c_ref52_power_3 : SC := .ret
abbrev c_ref52_power_2 : SC := .seq (.reg [o 16 (.mv (.t 7)), o 6 (.mv (.t 16))]) c_ref52_power_3
abbrev c_ref52_power_1 : SC := .seq (.reg [o 10 (.ld (.t 3) 3 true), o 11 (.mv (.t 1)), o 12 (.mv (.t 2)), o 13 (.call (.f n_ref04_Pow) [.t 10, .t 11, .t 12]), o 9 (.mv (.t 13)), o 14 (.ext (.t 9) 0), o 15 (.ext (.t 9) 1), o 7 (.mv (.t 14)), o 8 (.mv (.t 15))]) c_ref52_power_2
abbrev c_ref52_power_0 : SC := .seq (.reg [o 3 (.box (.t 0)), o 6 (.mv (ki 0))]) c_ref52_power_1
theorem cf_ref52_power : cfun Go.Proofs.Try.prog md n_ref52_power = some ⟨3, 17, c_ref52_power_0.erase, [.t 6]⟩ := by kernel_rfl
-- ref09_Entries
abbrev c_ref09_EntriesL0_2 : SC := (.reg [o 10 (.mv (.t 5)), o 11 (.bin .add (.t 10) (ki 1)), o 5 (.mv (.t 11))])
abbrev c_ref09_EntriesL0_1 : SC := .seq (.block 1 (.seq (.reg [o 13 (.mv (.t 1)), o 14 (.mv (.t 5)), o 15 (.iadr (.t 13) (.t 14) 1), o 12 (.ld (.t 2) 3 true), o 16 (.ld (.t 15) 1 false), om 1 17 (.call (.f n_ref04_Is) [.t 12, .t 16]), o 18 (.not (.t 17))]) (.cond (.t 18) (.seq (.reg [o 4 (.mv (ki 2))]) .ret) .skip))) c_ref09_EntriesL0_2
abbrev c_ref09_EntriesL0_0 : SC := .seq (.seq (.reg [o 6 (.mv (.t 5)), o 7 (.mv (.t 1)), o 8 (.len (.t 7)), o 9 (.bin .lss (.t 6) (.t 8))]) (.cond (.t 9) .skip (.exit 0))) c_ref09_EntriesL0_1
abbrev c_ref09_Entries_3 : SC := .ret
abbrev c_ref09_Entries_2 : SC := .seq (.reg [o 4 (.mv (ki 0))]) c_ref09_Entries_3
abbrev c_ref09_Entries_1 : SC := .seq (.seq (.reg [o 5 (.mv (ki 0))]) (.block 0 (.loop c_ref09_EntriesL0_0))) c_ref09_Entries_2
abbrev c_ref09_Entries_0 : SC := .seq (.reg [o 2 (.box (.t 0)), o 4 (.mv (ki 0))]) c_ref09_Entries_1
theorem cf_ref09_Entries : cfun Go.Proofs.Try.prog md n_ref09_Entries = some ⟨2, 19, c_ref09_Entries_0.erase, [.t 4]⟩ := by kernel_rfl
-- regenerate_Check
abbrev c_regenerate_CheckL0_3 : SC := (.reg [o 85 (.bin .add (.t 77) (ki 1)), o 77 (.mv (.t 85))])
abbrev c_regenerate_CheckL0_2 : SC := .seq (.block 2 (.seq (.reg [o 79 (.iadr (.t 75) (.t 77) 1), o 80 (.ld (.t 79) 1 false), o 7 (.mv (.t 80))]) (.seq (.reg [o 81 (.mv (.t 3)), o 82 (.mv (.t 7)), o 83 (.call (.f n_field_GF_Is) [.t 81, .t 82]), o 84 (.not (.t 83))]) (.cond (.t 84) (.seq (.reg [o 2 (.mv (ki 2))]) .ret) .skip)))) c_regenerate_CheckL0_3
abbrev c_regenerate_CheckL0_1 : SC := .seq (.cond (.t 78) .skip (.exit 1)) c_regenerate_CheckL0_2
abbrev c_regenerate_CheckL0_0 : SC := .seq (.reg [o 78 (.bin .lss (.t 77) (.t 76))]) c_regenerate_CheckL0_1
abbrev c_regenerate_CheckL1_3 : SC := (.reg [o 112 (.bin .add (.t 95) (ki 1)), o 95 (.mv (.t 112))])
abbrev c_regenerate_CheckL1_2 : SC := .seq (.block 4 (.seq (.reg [o 97 (.iadr (.t 93) (.t 95) 1), o 98 (.ld (.t 97) 1 false), o 10 (.mv (.t 98))]) (.seq (.reg [o 100 (.mv (.t 3)), o 101 (.mv (.t 10)), o 102 (.fadr (.t 1) 4), o 103 (.ld (.t 102) 1 false), o 104 (.bin .sub (.t 103) (ki 1)), o 105 (.call (.f n_field_GF_Pow) [.t 100, .t 101, .t 104]), o 99 (.mv (.t 105)), o 106 (.ext (.t 99) 0), o 107 (.ext (.t 99) 1), o 11 (.mv (.t 106)), o 12 (.mv (.t 107))]) (.reg [o 108 (.mv (.t 8)), o 109 (.mv (.t 11)), o 110 (.mkl 1 1 [I 0] [(0, (1, .t 109))]), o 111 (.app (.t 108) (.t 110) 1), o 8 (.mv (.t 111))])))) c_regenerate_CheckL1_3
abbrev c_regenerate_CheckL1_1 : SC := .seq (.cond (.t 96) .skip (.exit 3)) c_regenerate_CheckL1_2
abbrev c_regenerate_CheckL1_0 : SC := .seq (.reg [o 96 (.bin .lss (.t 95) (.t 94))]) c_regenerate_CheckL1_1
abbrev c_regenerate_Check_8 : SC := .ret
abbrev c_regenerate_Check_7 : SC := .seq (.reg [o 2 (.mv (ki 0))]) c_regenerate_Check_8
abbrev c_regenerate_Check_6 : SC := .seq (.seq (.reg [o 89 (.fadr (.t 1) 3), o 90 (.ld (.t 89) 1 false), o 91 (.bin .eql (.t 90) (ki 1))]) (.cond (.t 91) (.seq (.reg [o 8 (.mv (.k .nils))]) (.seq (.seq (.reg [o 92 (.fadr (.t 1) 6), o 93 (.ld (.t 92) 1 false), o 94 (.len (.t 93)), o 95 (.mv (ki 0))]) (.block 3 (.loop c_regenerate_CheckL1_0))) (.seq (.fz [8] (.reg [o 113 (.mv (.t 8)), o 114 (.call (.f n_regenerate_twice) [.t 113])])) (.cond (.t 114) (.seq (.reg [o 2 (.mv (ki 5))]) .ret) .skip)))) .skip)) c_regenerate_Check_7
abbrev c_regenerate_Check_5 : SC := .seq (.seq (.reg [o 86 (.fadr (.t 1) 6), o 87 (.ld (.t 86) 1 false), o 88 (.call (.f n_regenerate_twice) [.t 87])]) (.cond (.t 88) (.seq (.reg [o 2 (.mv (ki 18))]) .ret) .skip)) c_regenerate_Check_6
abbrev c_regenerate_Check_4 : SC := .seq (.seq (.reg [o 74 (.fadr (.t 1) 6), o 75 (.ld (.t 74) 1 false), o 76 (.len (.t 75)), o 77 (.mv (ki 0))]) (.block 1 (.loop c_regenerate_CheckL0_0))) c_regenerate_Check_5
abbrev c_regenerate_Check_3 : SC := .seq (.block 0 (.seq (.reg [o 23 (.mv (.t 4)), o 24 (.bin .neq (.t 23) (ki 0)), o 22 (.mv (.t 24))]) (.cond (.t 22) (.seq (.reg [o 25 (.mv (.t 4)), o 2 (.mv (.t 25))]) .ret) (.seq (.reg [o 27 (.mv (.t 5)), o 28 (.bin .lss (.t 27) (ki 2)), o 29 (.mv (.t 28)), og 29 false 0 30 (.mv (.t 5)), og 29 false 0 31 (.bin .gtr (.t 30) (ki 64)), o 32 (.pick (.t 29) (kb true) (.t 31)), o 26 (.mv (.t 32))]) (.cond (.t 26) (.seq (.reg [o 2 (.mv (ki 4))]) .ret) (.seq (.seq (.reg [o 34 (.fadr (.t 1) 3), o 35 (.ld (.t 34) 1 false), o 36 (.bin .neq (.t 35) (ki 0)), o 37 (.mv (.t 36)), og 37 true 0 38 (.fadr (.t 1) 3), og 37 true 0 39 (.ld (.t 38) 1 false), og 37 true 0 40 (.bin .neq (.t 39) (ki 1)), o 41 (.pick (.t 37) (.t 40) (kb false)), o 33 (.mv (.t 41))]) (.cond (.t 33) .skip (.seq (.reg [o 42 (.fadr (.t 1) 5), o 43 (.ld (.t 42) 1 false), o 44 (.bin .lss (.t 43) (ki 1)), o 45 (.mv (.t 44)), og 45 false 0 46 (.fadr (.t 1) 5), og 45 false 0 47 (.ld (.t 46) 1 false), og 45 false 0 48 (.mv (.t 5)), og 45 false 0 49 (.bin .sub (.t 48) (ki 1)), og 45 false 0 50 (.bin .gtr (.t 47) (.t 49)), o 51 (.pick (.t 45) (kb true) (.t 50)), o 33 (.mv (.t 51))]) (.cond (.t 33) .skip (.seq (.reg [o 52 (.fadr (.t 1) 4), o 53 (.ld (.t 52) 1 false), o 54 (.bin .lss (.t 53) (ki 1)), o 55 (.mv (.t 54)), og 55 false 0 56 (.fadr (.t 1) 4), og 55 false 0 57 (.ld (.t 56) 1 false), og 55 false 0 58 (.fadr (.t 1) 5), og 55 false 0 59 (.ld (.t 58) 1 false), og 55 false 0 60 (.bin .gtr (.t 57) (.t 59)), o 61 (.pick (.t 55) (kb true) (.t 60)), o 33 (.mv (.t 61))]) (.cond (.t 33) .skip (.reg [o 62 (.fadr (.t 1) 3), o 63 (.ld (.t 62) 1 false), o 64 (.bin .eql (.t 63) (ki 1)), o 65 (.mv (.t 64)), og 65 true 0 66 (.fadr (.t 1) 5), og 65 true 0 67 (.ld (.t 66) 1 false), og 65 true 0 68 (.fadr (.t 1) 4), og 65 true 0 69 (.ld (.t 68) 1 false), og 65 true 0 70 (.bin .mul (ki 2) (.t 69)), og 65 true 0 71 (.bin .sub (.t 70) (ki 2)), og 65 true 0 72 (.bin .neq (.t 67) (.t 71)), o 73 (.pick (.t 65) (.t 72) (kb false)), o 33 (.mv (.t 73))]))))))) (.cond (.t 33) (.seq (.reg [o 2 (.mv (ki 6))]) .ret) .skip))))))) c_regenerate_Check_4
abbrev c_regenerate_Check_2 : SC := .seq (.reg [o 19 (.fadr (.t 1) 6), o 20 (.ld (.t 19) 1 false), o 21 (.len (.t 20)), o 5 (.mv (.t 21))]) c_regenerate_Check_3
abbrev c_regenerate_Check_1 : SC := .seq (.reg [o 14 (.fadr (.t 1) 0), o 15 (.ld (.t 14) 3 true), o 16 (.call (.f n_field_New) [.t 15]), o 13 (.mv (.t 16)), o 17 (.ext (.t 13) 0), o 18 (.ext (.t 13) 1), o 3 (.mv (.t 17)), o 4 (.mv (.t 18))]) c_regenerate_Check_2
abbrev c_regenerate_Check_0 : SC := .seq (.reg [o 1 (.box (.t 0)), o 2 (.mv (ki 0))]) c_regenerate_Check_1
theorem cf_regenerate_Check : cfun Go.Proofs.Try.prog md n_regenerate_Check = some ⟨1, 115, c_regenerate_Check_0.erase, [.t 2]⟩ := by kernel_rfl
-- ref52_Check
abbrev c_ref52_CheckL1_2 : SC := (.reg [o 79 (.mv (.t 5)), o 80 (.bin .add (.t 79) (ki 1)), o 5 (.mv (.t 80))])
abbrev c_ref52_CheckL1_1 : SC := .seq (.block 3 (.seq (.reg [o 81 (.fadr (.t 1) 6), o 83 (.mv (.t 4)), o 86 (.fadr (.t 1) 6), o 88 (.mv (.t 5)), o 82 (.ld (.t 81) 1 false), o 84 (.iadr (.t 82) (.t 83) 1), o 85 (.ld (.t 84) 1 false), o 87 (.ld (.t 86) 1 false), o 89 (.iadr (.t 87) (.t 88) 1), o 90 (.ld (.t 89) 1 false), o 91 (.bin .eql (.t 85) (.t 90))]) (.cond (.t 91) (.seq (.reg [o 2 (.mv (ki 18))]) .ret) .skip))) c_ref52_CheckL1_2
abbrev c_ref52_CheckL1_0 : SC := .seq (.seq (.reg [o 76 (.mv (.t 5)), o 77 (.mv (.t 4)), o 78 (.bin .lss (.t 76) (.t 77))]) (.cond (.t 78) .skip (.exit 2))) c_ref52_CheckL1_1
abbrev c_ref52_CheckL0_2 : SC := (.reg [o 74 (.mv (.t 4)), o 75 (.bin .add (.t 74) (ki 1)), o 4 (.mv (.t 75))])
abbrev c_ref52_CheckL0_1 : SC := .seq (.block 1 (.seq (.reg [o 5 (.mv (ki 0))]) (.block 2 (.loop c_ref52_CheckL1_0)))) c_ref52_CheckL0_2
abbrev c_ref52_CheckL0_0 : SC := .seq (.seq (.reg [o 71 (.mv (.t 4)), o 72 (.mv (.t 3)), o 73 (.bin .lss (.t 71) (.t 72))]) (.cond (.t 73) .skip (.exit 0))) c_ref52_CheckL0_1
abbrev c_ref52_CheckL3_2 : SC := (.reg [o 100 (.mv (.t 7)), o 101 (.bin .add (.t 100) (ki 1)), o 7 (.mv (.t 101))])
abbrev c_ref52_CheckL3_1 : SC := .seq (.block 7 (.seq (.reg [o 102 (.fadr (.t 1) 3), o 103 (.ld (.t 102) 1 false), o 104 (.bin .eql (.t 103) (ki 1)), o 105 (.mv (.t 104)), og 105 true 0 106 (.fadr (.t 1) 0), og 105 true 0 108 (.fadr (.t 1) 6), og 105 true 0 110 (.mv (.t 6)), og 105 true 0 113 (.fadr (.t 1) 4), og 105 true 0 117 (.fadr (.t 1) 0), og 105 true 0 119 (.fadr (.t 1) 6), og 105 true 0 121 (.mv (.t 7)), og 105 true 0 124 (.fadr (.t 1) 4), og 105 true 0 107 (.ld (.t 106) 3 true), og 105 true 0 109 (.ld (.t 108) 1 false), og 105 true 0 111 (.iadr (.t 109) (.t 110) 1), og 105 true 0 112 (.ld (.t 111) 1 false), og 105 true 0 114 (.ld (.t 113) 1 false), og 105 true 0 115 (.bin .sub (.t 114) (ki 1)), og 105 true 0 118 (.ld (.t 117) 3 true), og 105 true 0 120 (.ld (.t 119) 1 false), og 105 true 0 122 (.iadr (.t 120) (.t 121) 1), og 105 true 0 123 (.ld (.t 122) 1 false), og 105 true 0 125 (.ld (.t 124) 1 false), og 105 true 0 126 (.bin .sub (.t 125) (ki 1)), og 105 true 1 116 (.call (.f n_ref52_power) [.t 107, .t 112, .t 115]), og 105 true 1 127 (.call (.f n_ref52_power) [.t 118, .t 123, .t 126]), og 105 true 0 128 (.bin .eql (.t 116) (.t 127)), o 129 (.pick (.t 105) (.t 128) (kb false))]) (.cond (.t 129) (.seq (.reg [o 2 (.mv (ki 5))]) .ret) .skip))) c_ref52_CheckL3_2
abbrev c_ref52_CheckL3_0 : SC := .seq (.seq (.reg [o 97 (.mv (.t 7)), o 98 (.mv (.t 6)), o 99 (.bin .lss (.t 97) (.t 98))]) (.cond (.t 99) .skip (.exit 6))) c_ref52_CheckL3_1
abbrev c_ref52_CheckL2_2 : SC := (.reg [o 95 (.mv (.t 6)), o 96 (.bin .add (.t 95) (ki 1)), o 6 (.mv (.t 96))])
abbrev c_ref52_CheckL2_1 : SC := .seq (.block 5 (.seq (.reg [o 7 (.mv (ki 0))]) (.block 6 (.loop c_ref52_CheckL3_0)))) c_ref52_CheckL2_2
abbrev c_ref52_CheckL2_0 : SC := .seq (.seq (.reg [o 92 (.mv (.t 6)), o 93 (.mv (.t 3)), o 94 (.bin .lss (.t 92) (.t 93))]) (.cond (.t 94) .skip (.exit 4))) c_ref52_CheckL2_1
abbrev c_ref52_Check_10 : SC := .ret
abbrev c_ref52_Check_9 : SC := .seq (.reg [o 2 (.mv (ki 0))]) c_ref52_Check_10
abbrev c_ref52_Check_8 : SC := .seq (.seq (.reg [o 6 (.mv (ki 0))]) (.block 4 (.loop c_ref52_CheckL2_0))) c_ref52_Check_9
abbrev c_ref52_Check_7 : SC := .seq (.seq (.reg [o 4 (.mv (ki 0))]) (.block 0 (.loop c_ref52_CheckL0_0))) c_ref52_Check_8
abbrev c_ref52_Check_6 : SC := .seq (.seq (.reg [o 65 (.fadr (.t 1) 0), o 66 (.ld (.t 65) 3 true), o 67 (.fadr (.t 1) 6), o 68 (.ld (.t 67) 1 false), o 69 (.call (.f n_ref09_Entries) [.t 66, .t 68]), o 70 (.bin .neq (.t 69) (ki 0))]) (.cond (.t 70) (.seq (.reg [o 2 (.mv (ki 2))]) .ret) .skip)) c_ref52_Check_7
abbrev c_ref52_Check_5 : SC := .seq (.seq (.reg [o 53 (.fadr (.t 1) 3), o 54 (.ld (.t 53) 1 false), o 55 (.bin .eql (.t 54) (ki 1)), o 56 (.mv (.t 55)), og 56 true 0 57 (.fadr (.t 1) 5), og 56 true 0 58 (.ld (.t 57) 1 false), og 56 true 0 59 (.fadr (.t 1) 4), og 56 true 0 60 (.ld (.t 59) 1 false), og 56 true 0 61 (.bin .mul (ki 2) (.t 60)), og 56 true 0 62 (.bin .sub (.t 61) (ki 2)), og 56 true 0 63 (.bin .neq (.t 58) (.t 62)), o 64 (.pick (.t 56) (.t 63) (kb false))]) (.cond (.t 64) (.seq (.reg [o 2 (.mv (ki 6))]) .ret) .skip)) c_ref52_Check_6
abbrev c_ref52_Check_4 : SC := .seq (.seq (.reg [o 21 (.fadr (.t 1) 3), o 22 (.ld (.t 21) 1 false), o 23 (.bin .neq (.t 22) (ki 0)), o 24 (.mv (.t 23)), og 24 true 0 25 (.fadr (.t 1) 3), og 24 true 0 26 (.ld (.t 25) 1 false), og 24 true 0 27 (.bin .neq (.t 26) (ki 1)), o 28 (.pick (.t 24) (.t 27) (kb false)), o 29 (.mv (.t 28)), og 29 false 0 30 (.fadr (.t 1) 5), og 29 false 0 31 (.ld (.t 30) 1 false), og 29 false 0 32 (.bin .lss (.t 31) (ki 1)), o 33 (.pick (.t 29) (kb true) (.t 32)), o 34 (.mv (.t 33)), og 34 false 0 35 (.fadr (.t 1) 5), og 34 false 0 36 (.ld (.t 35) 1 false), og 34 false 0 37 (.mv (.t 3)), og 34 false 0 38 (.bin .sub (.t 37) (ki 1)), og 34 false 0 39 (.bin .gtr (.t 36) (.t 38)), o 40 (.pick (.t 34) (kb true) (.t 39)), o 41 (.mv (.t 40)), og 41 false 0 42 (.fadr (.t 1) 4), og 41 false 0 43 (.ld (.t 42) 1 false), og 41 false 0 44 (.bin .lss (.t 43) (ki 1)), o 45 (.pick (.t 41) (kb true) (.t 44)), o 46 (.mv (.t 45)), og 46 false 0 47 (.fadr (.t 1) 4), og 46 false 0 48 (.ld (.t 47) 1 false), og 46 false 0 49 (.fadr (.t 1) 5), og 46 false 0 50 (.ld (.t 49) 1 false), og 46 false 0 51 (.bin .gtr (.t 48) (.t 50)), o 52 (.pick (.t 46) (kb true) (.t 51))]) (.cond (.t 52) (.seq (.reg [o 2 (.mv (ki 6))]) .ret) .skip)) c_ref52_Check_5
abbrev c_ref52_Check_3 : SC := .seq (.seq (.reg [o 15 (.mv (.t 3)), o 16 (.bin .lss (.t 15) (ki 2)), o 17 (.mv (.t 16)), og 17 false 0 18 (.mv (.t 3)), og 17 false 0 19 (.bin .gtr (.t 18) (ki 64)), o 20 (.pick (.t 17) (kb true) (.t 19))]) (.cond (.t 20) (.seq (.reg [o 2 (.mv (ki 4))]) .ret) .skip)) c_ref52_Check_4
abbrev c_ref52_Check_2 : SC := .seq (.reg [o 12 (.fadr (.t 1) 6), o 13 (.ld (.t 12) 1 false), o 14 (.len (.t 13)), o 3 (.mv (.t 14))]) c_ref52_Check_3
abbrev c_ref52_Check_1 : SC := .seq (.seq (.reg [o 8 (.fadr (.t 1) 0), o 9 (.ld (.t 8) 3 true), o 10 (.call (.f n_ref04_Check) [.t 9]), o 11 (.bin .neq (.t 10) (ki 0))]) (.cond (.t 11) (.seq (.reg [o 2 (.mv (ki 1))]) .ret) .skip)) c_ref52_Check_2
abbrev c_ref52_Check_0 : SC := .seq (.reg [o 1 (.box (.t 0)), o 2 (.mv (ki 0))]) c_ref52_Check_1
theorem cf_ref52_Check : cfun Go.Proofs.Try.prog md n_ref52_Check = some ⟨1, 130, c_ref52_Check_0.erase, [.t 2]⟩ := by kernel_rfl
-- regenerate_sizes
abbrev c_regenerate_sizes_3 : SC := .ret
abbrev c_regenerate_sizes_2 : SC := .seq (.reg [o 16 (.fadr (.t 1) 4), o 18 (.fadr (.t 1) 5), o 21 (.fadr (.t 1) 4), o 23 (.fadr (.t 1) 4), o 29 (.fadr (.t 1) 5), o 17 (.ld (.t 16) 1 false), o 19 (.ld (.t 18) 1 false), o 20 (.bin .mul (.t 17) (.t 19)), o 22 (.ld (.t 21) 1 false), o 24 (.ld (.t 23) 1 false), o 25 (.bin .sub (.t 24) (ki 1)), o 26 (.bin .mul (.t 22) (.t 25)), o 27 (.bin .quo (.t 26) (ki 2)), o 28 (.bin .sub (.t 20) (.t 27)), o 2 (.mv (.t 28)), o 30 (.ld (.t 29) 1 false), o 3 (.mv (.t 30))]) c_regenerate_sizes_3
abbrev c_regenerate_sizes_1 : SC := .seq (.seq (.reg [o 4 (.fadr (.t 1) 3), o 5 (.ld (.t 4) 1 false), o 6 (.bin .eql (.t 5) (ki 1))]) (.cond (.t 6) (.seq (.reg [o 7 (.fadr (.t 1) 4), o 9 (.fadr (.t 1) 4), o 13 (.fadr (.t 1) 4), o 8 (.ld (.t 7) 1 false), o 10 (.ld (.t 9) 1 false), o 11 (.bin .sub (.t 10) (ki 1)), o 12 (.bin .mul (.t 8) (.t 11)), o 2 (.mv (.t 12)), o 14 (.ld (.t 13) 1 false), o 15 (.bin .sub (.t 14) (ki 1)), o 3 (.mv (.t 15))]) .ret) .skip)) c_regenerate_sizes_2
abbrev c_regenerate_sizes_0 : SC := .seq (.reg [o 1 (.box (.t 0)), o 2 (.mv (ki 0)), o 3 (.mv (ki 0))]) c_regenerate_sizes_1
theorem cf_regenerate_sizes : cfun Go.Proofs.Try.prog md n_regenerate_sizes = some ⟨1, 31, c_regenerate_sizes_0.erase, [.t 2, .t 3]⟩ := by kernel_rfl
end Go.AM.Ytmihmgnjnedfcab
end

section
/- Contracts of functions: the reference's elements and product. -/
set_option maxRecDepth 100000
set_option linter.unusedSimpArgs false
set_option linter.unusedVariables false
namespace Go.AM.Ytmihmgnjnedfcab
open Go Go.AM
attribute [local simp ↓] awp_seq awp_reg awp_skip awp_cond awp_block awp_exit awp_ret awp_fz thenW_normal thenW_exit thenW_ret inBlk_normal inBlk_exit inBlk_ret aops_cons aops_nil e_mv e_guard e_pick e_ld e_app e_cpy e_st e_call callW_f updO_some updO_none e_bin e_isnil e_fadr e_iadr e_iarr e_len e_build e_mkf e_nc e_not e_neg e_cvt e_slc e_fld e_ext e_min e_eqs e_new e_box e_mkl e_mks
attribute [local simp] upd_apply ev_t ev_k ev_f binA_add binA_sub binA_mul binA_quo binA_rem binA_eql binA_neq binA_lss binA_leq binA_gtr binA_geq det mem frame0 keeps_nil iadrA_sl fadrA_ref fadrA_fp ldv_agg ldv_one cells_base hset_same hset_hset lenA_fs lenA_sl lenA_nils zeros_ints ints_length one_base one_nilp one_nils one_ref one_sl one_fp one_fs one_fn gl_one resA resOf bound natOf afill splice AV.cells cells_agg bindW_some condW_true condW_false condW_dec condW_ndec guardW_tup guardW_true guardW_true' guardW_false guardW_false' allocW_some pickA_true pickA_false
open Go.FM

theorem Rg.ord {D : Ds} (r : Rg D) : ordE D.p D.m = D.q := by
  have h1 := r.p2
  have h2 := r.m1
  have h3 := r.m8
  have h4 := r.p256
  have h5 := r.pm
  rw [Ds.qI]
  unfold ordE
  rw [if_pos]
  · simp
  · refine ⟨by omega, by omega, by omega, by omega, by simpa using h5⟩

theorem s_refIs {D : Ds} (r : Rg D) {mv : AV} (hone : one mv = true) (x : Int) : Pure prog n_ref04_Is [.agg [I D.p, I D.m, mv], I x] (B (decide (0 ≤ x ∧ x < D.q))) := by
  refine pure_of cf_ref04_Is rfl fun h => ?_
  simp [hone]
  intro b2 hb2
  obtain ⟨l0, l1, l2, l3⟩ := ld3_at (hset_same h b2 [I D.p, I D.m, mv])
  have hkg : Kp h (hset h b2 [I D.p, I D.m, mv]) := (Kp.refl h).new hb2 _
  generalize hset h b2 [I D.p, I D.m, mv] = g at *
  by_cases c : 0 ≤ x
  · simp [c, l3]
    refine (s_Order D.p D.m hone).call ?_
    rw [r.ord]
    simp
    exact ⟨_, hkg.sub, .id _, rfl⟩
  · simp [c]
    exact ⟨_, hkg.sub, .id _, rfl⟩

theorem s_refIn {D : Ds} (r : Rg D) {mv : AV} (hone : one mv = true) (x : Int) : Pure prog n_ref04_In [.agg [I D.p, I D.m, mv], I x] (I (D.inn x)) := by
  refine pure_of cf_ref04_In rfl fun h => ?_
  simp [hone]
  intro b2 hb2
  obtain ⟨l0, l1, l2, l3⟩ := ld3_at (hset_same h b2 [I D.p, I D.m, mv])
  have hkg : Kp h (hset h b2 [I D.p, I D.m, mv]) := (Kp.refl h).new hb2 _
  generalize hset h b2 [I D.p, I D.m, mv] = g at *
  simp [l3]
  refine (s_refIs r hone x).call ?_
  unfold Ds.inn
  by_cases c : 0 ≤ x ∧ x < D.q
  · rw [decide_eq_true c, if_pos c]
    simp
    exact ⟨_, hkg.sub, .id _, rfl⟩
  · rw [decide_eq_false c, if_neg c]
    simp
    exact ⟨_, hkg.sub, .id _, rfl⟩

theorem s_refDigits {D : Ds} (r : Rg D) {mv : AV} (hone : one mv = true) (x : Int) : Pure prog n_ref04_Digits [.agg [I D.p, I D.m, mv], I x] (.fs D.m (ints (digs D.p D.m (D.inn x)))) := by
  refine pure_of cf_ref04_Digits rfl fun h => ?_
  simp [hone]
  intro b2 hb2
  obtain ⟨l0, l1, l2, l3⟩ := ld3_at (hset_same h b2 [I D.p, I D.m, mv])
  have hkg : Kp h (hset h b2 [I D.p, I D.m, mv]) := (Kp.refl h).new hb2 _
  generalize hset h b2 [I D.p, I D.m, mv] = g at *
  have h1 := r.p2
  have h2 := r.m8
  have h3 := r.toOk.innR x
  have h4 := r.q256
  unfold Ds.R at h3
  simp [l0, l1, l3]
  refine (s_refIn r hone x).call ?_
  refine (s_digits (x := D.inn x) (p := D.p) (m := D.m) ⟨by omega, by omega⟩ (by omega) (by omega)).call ?_
  exact ⟨_, hkg.sub, .id _, rfl⟩

theorem s_Value {v mv : AV} {m : Int} {l : List Int} (hv : IL v l) (hone : one mv = true) {p : Int} (hp : 2 ≤ p) (hp2 : p ≤ 256) (h : Dg p l) (hl : p ^ l.length ≤ 256) (hll : l.length ≤ 1000) : Pure prog n_ref04_Value [.agg [I p, I m, mv], v] (I (val p l)) := by
  refine pure_of cf_ref04_Value rfl fun h' => ?_
  have u0 : IntKind.i64.wrap ((l.length : Int) - 1) = l.length - 1 := w64 _ (by omega)
  simp [hone]
  intro b2 hb2
  obtain ⟨l0, l1, l2, l3⟩ := ld3_at (hset_same h' b2 [I p, I m, mv])
  have hkg : Kp h' (hset h' b2 [I p, I m, mv]) := (Kp.refl h').new hb2 _
  generalize hset h' b2 [I p, I m, mv] = g at *
  simp [hv.len, u0]
  refine awp_for l.length (fun k fr' h2 => h2 = g ∧ (∃ i : Int, i + k = (l.length : Int) - 1 ∧ fr' 6 = I i) ∧ fr' 5 = I (val p (l.drop (l.length - k)))) ⟨rfl, ⟨_, by simp; rfl, by simp⟩, by simp [val]⟩ ?_
  intro k fr' h2 hkn hk ⟨hh, ⟨i, hi, h6⟩, h5⟩
  subst hh
  have k1 := hk 1 (by decide)
  have k2 := hk 2 (by decide)
  simp at k1 k2
  clear hk
  by_cases hlt : k < l.length
  · have hj : l.length - 1 - k < l.length := by omega
    have c : 0 ≤ i := by omega
    have e0 : i.toNat = l.length - 1 - k := by omega
    have hia := hv.iadr (i := i) ⟨by omega, by omega⟩
    rw [e0] at hia
    have hld := ld_ints (h := h2) hj
    have hg := Dg_getD h hj
    have hvd := val_drop (p := p) hj
    have hv1 := val_le hp h hl (l.length - 1 - k + 1)
    have hv2 := val_le hp h hl (l.length - 1 - k)
    rw [show l.length - k = l.length - 1 - k + 1 by omega] at h5
    rw [show l.length - (k + 1) = l.length - 1 - k by omega, hvd]
    rw [hvd] at hv2
    generalize val p (l.drop (l.length - 1 - k + 1)) = y at *
    generalize l.getD (l.length - 1 - k) 0 = z at *
    have hm1 : 0 ≤ p * y := Int.mul_nonneg (by omega) hv1.1
    have hcm : y * p = p * y := Int.mul_comm _ _
    have u1 : IntKind.i64.wrap (y * p) = y * p := w64 _ (by omega)
    have u2 : IntKind.i64.wrap (y * p + z) = z + p * y := by rw [w64 _ (by omega)]; omega
    have u3 : IntKind.i64.wrap (i - 1) = i - 1 := w64 _ (by omega)
    simp [h6, h5, k1, k2, l0, c, hia, hld, u1, u2, u3, hlt]
    omega
  · have : k = l.length := by omega
    subst this
    have c : ¬ 0 ≤ i := by omega
    simp [h6, h5, c]
    exact ⟨_, hkg.sub, .id _, rfl⟩

theorem num_val {p : Nat} (hp : 2 ≤ p) {m : Nat} {l : List Int} (h : Dg p l) (hl : l.length = m) : val p l = num p m (vl l) := by
  unfold num
  rw [red_vl (by omega) h hl]

theorem mul_dvd {p c d : Int} : p ∣ (c + d) % p - (c + d) := emod_dvd _ _
theorem mul_dvd2 {p c ci f : Int} : p ∣ (c + (p - ci) * f) % p - (c + -(ci * f)) := by
  have h1 := emod_dvd (c + (p - ci) * f) p
  have h2 : p ∣ p * f := Int.dvd_mul_right _ _
  have := Int.dvd_add h1 h2
  generalize (c + (p - ci) * f) % p = z at *
  rwa [show z - (c + (p - ci) * f) + p * f = z - (c + -(ci * f)) by grind] at this

set_option maxHeartbeats 4000000 in
theorem s_refMul {D : Ds} (r : Rg D) {mv : AV} (hmv : IL mv D.mo) (x y : Int) : Pure prog n_ref04_Mul [.agg [I D.p, I D.m, mv], I x, I y] (I (D.mul x y)) := by
  refine pure_of cf_ref04_Mul rfl fun h => ?_
  have hone := hmv.one
  have hp2 := r.p2
  have hm1 := r.m1
  have hm8 := r.m8
  have hp256 := r.p256
  simp [hone]
  intro b3 hb3
  obtain ⟨l0, l1, l2, l3⟩ := ld3_at (hset_same h b3 [I D.p, I D.m, mv])
  have hkg : Kp h (hset h b3 [I D.p, I D.m, mv]) := (Kp.refl h).new hb3 _
  have hg3 : (hset h b3 [I D.p, I D.m, mv]) b3 = some [I D.p, I D.m, mv] := hset_same ..
  generalize hset h b3 [I D.p, I D.m, mv] = g at *
  simp [l3]
  refine (s_refDigits r hone x).call ?_
  simp [l3]
  refine (s_refDigits r hone y).call ?_
  have u1 : IntKind.i64.wrap (2 * (D.m : Int)) = 2 * D.m := w64 _ (by omega)
  have u2 : IntKind.i64.wrap (2 * (D.m : Int) - 1) = ((2 * D.m - 1 : Nat) : Int) := by rw [w64 _ (by omega)]; omega
  have u3 : ((2 * D.m - 1 : Nat) : Int) ≤ 4294967296 := by omega
  simp [l1, u1, u2, u3]
  intro b9 hb9
  have hmulV : D.mul x y = D.nu (FM.mul D.m D.moV (vl (digs D.p D.m (D.inn x))) (vl (digs D.p D.m (D.inn y)))) := rfl
  rw [hmulV]
  clear hmulV
  have hla := digs_length (D.p : Int) D.m (D.inn x)
  have hlb := digs_length (D.p : Int) D.m (D.inn y)
  have hda := digs_Dg r.p0 D.m (D.inn x)
  have hdb := digs_Dg r.p0 D.m (D.inn y)
  have hIa := IL.fs (digs (D.p : Int) D.m (D.inn x))
  have hIb := IL.fs (digs (D.p : Int) D.m (D.inn y))
  rw [hla] at hIa
  rw [hlb] at hIb
  generalize digs (D.p : Int) D.m (D.inn x) = xa at *
  generalize digs (D.p : Int) D.m (D.inn y) = xb at *
  have hQ0 : Q D.m D.p (evk D.m D.moV (2 * D.m - 1) (vl (List.replicate (2 * D.m - 1) 0))) (fun t => S 0 (fun i => S D.m (fun j => vl xa i * vl xb j * Tn D.m D.moV (i + j) (e 0) t))) := Q.of fun t _ => by
    simp only [evk, vl_zeros, Int.zero_mul, S_zero]; rfl
  refine awp_for D.m (fun i fr' h' => Kp g h' ∧ (∃ c, h' b9 = some (ints c) ∧ c.length = 2 * D.m - 1 ∧ Dg D.p c ∧ Q D.m D.p (evk D.m D.moV (2 * D.m - 1) (vl c)) (fun t => S i (fun i => S D.m (fun j => vl xa i * vl xb j * Tn D.m D.moV (i + j) (e 0) t)))) ∧ fr' 10 = I i)
    ⟨(Kp.refl g).new hb9 _, ⟨_, hset_same .., by simp, Dg_zeros r.p0 _, hQ0⟩, by simp⟩ ?_
  clear hQ0
  intro i fr' h' hin hk ⟨hkp, ⟨c, hc, hcl, hcd, hcq⟩, k10⟩
  have k3 := hk 3 (by decide)
  have k7 := hk 7 (by decide)
  have k8 := hk 8 (by decide)
  have k9 := hk 9 (by decide)
  simp at k3 k7 k8 k9
  clear hk
  obtain ⟨q0, q1, q2, q3⟩ := ld3_at (hkp b3 _ hg3)
  by_cases hi : i < D.m
  · simp [k3, k10, q1, hi]
    refine awp_for D.m (fun j fr2 h2 => Kp g h2 ∧ (∃ c, h2 b9 = some (ints c) ∧ c.length = 2 * D.m - 1 ∧ Dg D.p c ∧ Q D.m D.p (evk D.m D.moV (2 * D.m - 1) (vl c)) (fun t => S i (fun i => S D.m (fun j => vl xa i * vl xb j * Tn D.m D.moV (i + j) (e 0) t)) + S j (fun j => vl xa i * vl xb j * Tn D.m D.moV (i + j) (e 0) t))) ∧ fr2 11 = I j)
      ⟨hkp, ⟨c, hc, hcl, hcd, by simpa [S] using hcq⟩, by simp⟩ ?_
    clear hc hcl hcd hcq
    intro j fr2 h2 hjn hk2 ⟨hkp2, ⟨c, hc, hcl, hcd, hcq⟩, k11⟩
    have m3 := hk2 3 (by decide)
    have m7 := hk2 7 (by decide)
    have m8 := hk2 8 (by decide)
    have m9 := hk2 9 (by decide)
    have m10 := hk2 10 (by decide)
    simp [k3, k7, k8, k9, k10] at m3 m7 m8 m9 m10
    clear hk2
    obtain ⟨p0, p1, p2, p3⟩ := ld3_at (hkp2 b3 _ hg3)
    by_cases hj : j < D.m
    · have u4 : IntKind.i64.wrap ((i : Int) + j) = ((i + j : Nat) : Int) := by rw [w64 _ (by omega)]; omega
      have hij : i + j < c.length := by omega
      have hldc := ld_ints_at hc hij
      have hja := hIa.iadr (i := i) ⟨by omega, by omega⟩
      have hjb := hIb.iadr (i := j) ⟨by omega, by omega⟩
      simp at hja hjb
      have hlda := fun h' => ld_ints (h := h') (l := xa) (k := i) (by omega)
      have hldb := fun h' => ld_ints (h := h') (l := xb) (k := j) (by omega)
      have r1 := Dg_getD hcd hij
      have r2 := Dg_getD hda (j := i) (by omega)
      have r3 := Dg_getD hdb (j := j) (by omega)
      have hevk := evk_set (m := D.m) (mo := D.moV) (k := 2 * D.m - 1) (p := D.p) (c := c) (l := i + j) (v := (c.getD (i + j) 0 + xa.getD i 0 * xb.getD j 0) % D.p) (d := xa.getD i 0 * xb.getD j 0) (by omega) hij mul_dvd
      have hst := fun Q => st_ints_at (v := (c.getD (i + j) 0 + xa.getD i 0 * xb.getD j 0) % D.p) (Q := Q) hc hij
      have e1 : vl xa i = xa.getD i 0 := rfl
      have e2 : vl xb j = xb.getD j 0 := rfl
      have hstep : Q D.m D.p (evk D.m D.moV (2 * D.m - 1) (vl (c.set (i + j) ((c.getD (i + j) 0 + xa.getD i 0 * xb.getD j 0) % D.p)))) (fun t => S i (fun i => S D.m (fun j => vl xa i * vl xb j * Tn D.m D.moV (i + j) (e 0) t)) + S (j + 1) (fun j => vl xa i * vl xb j * Tn D.m D.moV (i + j) (e 0) t)) := by
        refine hevk.trans ((hcq.add (Q.refl _)).trans (Q.of fun t _ => ?_))
        simp only [S, e1, e2]
        omega
      have hrm : 0 ≤ (c.getD (i + j) 0 + xa.getD i 0 * xb.getD j 0) % D.p ∧ (c.getD (i + j) 0 + xa.getD i 0 * xb.getD j 0) % D.p < D.p := ⟨Int.emod_nonneg _ (by omega), Int.emod_lt_of_pos _ (by omega)⟩
      clear hevk e1 e2
      generalize xa.getD i 0 = ai at *
      generalize xb.getD j 0 = bj at *
      generalize c.getD (i + j) 0 = cij at *
      have b1 : 0 ≤ ai * bj := Int.mul_nonneg r2.1 r3.1
      have b2 : ai * bj ≤ 256 * 256 := Int.mul_le_mul (by omega) (by omega) r3.1 (by omega)
      have u5 : IntKind.i64.wrap (ai * bj) = ai * bj := w64 _ (by omega)
      have u6 : IntKind.i64.wrap (cij + ai * bj) = cij + ai * bj := w64 _ (by omega)
      have u7 : (cij + ai * bj).tmod D.p = (cij + ai * bj) % D.p := Int.tmod_eq_emod_of_nonneg (by omega)
      have u8 : IntKind.i64.wrap ((j : Int) + 1) = j + 1 := w64 _ (by omega)
      have hp0 : (D.p : Int) ≠ 0 := by omega
      have hp0' : D.p ≠ 0 := by omega
      generalize hnv : (cij + ai * bj) % (D.p : Int) = nv at *
      have c1 : (0 : Int) ≤ ((i + j : Nat) : Int) := by omega
      have c2 : ((i + j : Nat) : Int) < ((2 * D.m - 1 : Nat) : Int) := by omega
      have c3 : i + j < 2 * D.m - 1 := by omega
      have hres : Kp g (hset h2 b9 (ints (c.set (i + j) nv))) ∧ ∃ c', (hset h2 b9 (ints (c.set (i + j) nv))) b9 = some (ints c') ∧ c'.length = 2 * D.m - 1 ∧ Dg D.p c' ∧ Q D.m D.p (evk D.m D.moV (2 * D.m - 1) (vl c')) (fun t => S i (fun i => S D.m (fun j => vl xa i * vl xb j * Tn D.m D.moV (i + j) (e 0) t)) + S (j + 1) (fun j => vl xa i * vl xb j * Tn D.m D.moV (i + j) (e 0) t)) :=
        ⟨hkp2.set hb9 _, _, hset_same .., by simp [hcl], Dg_set hcd hrm _, hstep⟩
      clear hstep hcq
      generalize i + j = ij at u4 hldc hst c1 c2 c3 hres ⊢
      simp [m3, m7, m8, m9, m10, k11, p0, p1, hj, u4, hldc, hja, hjb, hlda, hldb, u5, u6, u7, u8, hp0, hp0', hnv, c1, c2, c3, hst]
      simpa using hres
    · have : j = D.m := by omega
      subst this
      have u8 : IntKind.i64.wrap ((i : Int) + 1) = i + 1 := w64 _ (by omega)
      simp [m3, m10, k11, p1, u8]
      exact ⟨hkp2, c, hc, hcl, hcd, hcq⟩
  · have hie : i = D.m := by omega
    have hnD : ¬ (i : Int) < D.m := by omega
    have hQt : Q D.m D.p (evk D.m D.moV (2 * D.m - 1) (vl c)) (FM.mul D.m D.moV (vl xa) (vl xb)) := by
      rw [hie] at hcq
      exact hcq.trans ((FM.mul_e r.m1 (vl xb) (vl xa)).symm.trans (FM.mul_comm r.m1 _ _))
    clear hcq
    generalize FM.mul D.m D.moV (vl xa) (vl xb) = tgt at *
    have u4 : IntKind.i64.wrap (2 * (D.m : Int) - 2) = ((2 * D.m - 2 : Nat) : Int) := by rw [w64 _ (by omega)]; omega
    have hlen := r.len
    simp [k3, k10, q1, hnD, u1, u4]
    refine awp_for (D.m - 1) (fun k fr2 h2 => Kp g h2 ∧ (∃ c, h2 b9 = some (ints c) ∧ c.length = 2 * D.m - 1 ∧ Dg D.p c ∧ Q D.m D.p (evk D.m D.moV (2 * D.m - 1 - k) (vl c)) tgt) ∧ (∃ i : Int, i + k = ((2 * D.m - 2 : Nat) : Int) ∧ fr2 12 = I i))
      ⟨hkp, ⟨c, hc, hcl, hcd, hQt⟩, ⟨_, by simp; rfl, by simp⟩⟩ ?_
    clear hQt hc hcl hcd k10 hin hie hnD
    intro k fr2 h2 hkn hk2 ⟨hkp2, ⟨c, hc, hcl, hcd, hcq⟩, ⟨i2, hi2, k12⟩⟩
    have m3 := hk2 3 (by decide)
    have m9 := hk2 9 (by decide)
    simp [k3, k9] at m3 m9
    clear hk2
    obtain ⟨p0, p1, p2, p3⟩ := ld3_at (hkp2 b3 _ hg3)
    by_cases hk : k < D.m - 1
    · obtain ⟨ii, rfl⟩ : ∃ n : Nat, i2 = n := ⟨i2.toNat, by omega⟩
      have hii : ii = 2 * D.m - 2 - k := by omega
      have hm1' : D.m ≠ 1 := by omega
      rw [if_neg hm1'] at hlen
      have c1 : (D.m : Int) ≤ ii := by omega
      have c1' : D.m ≤ ii := by omega
      have hciR := Dg_getD hcd (j := ii) (by omega)
      generalize hci : c.getD ii 0 = ci at *
      have hevk0 : ∀ t, evk D.m D.moV (2 * D.m - 1 - k) (vl c) t = evk D.m D.moV ii (vl c) t + ci * Tn D.m D.moV ii (e 0) t := fun t => by
        rw [show 2 * D.m - 1 - k = ii + 1 by omega]
        simp only [evk, S]
        rw [show vl c ii = ci from hci]
      simp [m3, k12, p1, c1, c1']
      refine awp_for D.m (fun j fr3 h3 => Kp g h3 ∧ (∃ c', h3 b9 = some (ints c') ∧ c'.length = 2 * D.m - 1 ∧ Dg D.p c' ∧ c'.getD ii 0 = ci ∧ Q D.m D.p (evk D.m D.moV ii (vl c')) (fun t => evk D.m D.moV ii (vl c) t + S j (fun j => -(ci * D.moV j) * Tn D.m D.moV (ii - D.m + j) (e 0) t))) ∧ fr3 13 = I j)
        ⟨hkp2, ⟨c, hc, hcl, hcd, hci, by simp only [S, Int.add_zero]; exact Q.refl _⟩, by simp⟩ ?_
      intro j fr3 h3 hjn hk3 ⟨hkp3, ⟨c', hc', hcl', hcd', hci', hcq'⟩, k13⟩
      have n3 := hk3 3 (by decide)
      have n9 := hk3 9 (by decide)
      have n12 := hk3 12 (by decide)
      simp [m3, m9, k12] at n3 n9 n12
      clear hk3
      obtain ⟨s0, s1, s2, s3⟩ := ld3_at (hkp3 b3 _ hg3)
      by_cases hj : j < D.m
      · have v1 : IntKind.i64.wrap ((ii : Int) - D.m) = ii - D.m := w64 _ (by omega)
        have v2 : IntKind.i64.wrap ((ii : Int) - D.m + j) = ((ii - D.m + j : Nat) : Int) := by rw [w64 _ (by omega)]; omega
        have hij : ii - D.m + j < c'.length := by omega
        have hldc := ld_ints_at hc' hij
        have hldi := ld_ints_at hc' (k := ii) (by omega)
        have hjm := hmv.iadr (i := j) ⟨by omega, by omega⟩
        simp at hjm
        have hldm := fun h' => ld_ints (h := h') (l := D.mo) (k := j) (by omega)
        have r1 := Dg_getD hcd' hij
        have r2 := Dg_getD r.dg (j := j) (by omega)
        have e1 : D.moV j = D.mo.getD j 0 := rfl
        have hevk := evk_set (m := D.m) (mo := D.moV) (k := ii) (p := D.p) (c := c') (l := ii - D.m + j) (v := (c'.getD (ii - D.m + j) 0 + (D.p - ci) * D.mo.getD j 0) % D.p) (d := -(ci * D.mo.getD j 0)) (by omega) hij mul_dvd2
        have hstep : Q D.m D.p (evk D.m D.moV ii (vl (c'.set (ii - D.m + j) ((c'.getD (ii - D.m + j) 0 + (D.p - ci) * D.mo.getD j 0) % D.p)))) (fun t => evk D.m D.moV ii (vl c) t + S (j + 1) (fun j => -(ci * D.moV j) * Tn D.m D.moV (ii - D.m + j) (e 0) t)) := by
          refine hevk.trans ((hcq'.add (Q.refl _)).trans (Q.of fun t _ => ?_))
          simp only [S, e1]
          omega
        have hrm : 0 ≤ (c'.getD (ii - D.m + j) 0 + (D.p - ci) * D.mo.getD j 0) % D.p ∧ (c'.getD (ii - D.m + j) 0 + (D.p - ci) * D.mo.getD j 0) % D.p < D.p := ⟨Int.emod_nonneg _ (by omega), Int.emod_lt_of_pos _ (by omega)⟩
        have hst := fun Q => st_ints_at (v := (c'.getD (ii - D.m + j) 0 + (D.p - ci) * D.mo.getD j 0) % D.p) (Q := Q) hc' hij
        rw [hci'] at hldi
        clear hevk e1
        generalize D.mo.getD j 0 = fj at *
        generalize c'.getD (ii - D.m + j) 0 = cij at *
        have b1 : 0 ≤ ((D.p : Int) - ci) * fj := Int.mul_nonneg (by omega) r2.1
        have b2 : ((D.p : Int) - ci) * fj ≤ 256 * 256 := Int.mul_le_mul (by omega) (by omega) r2.1 (by omega)
        have v3 : IntKind.i64.wrap ((D.p : Int) - ci) = D.p - ci := w64 _ (by omega)
        have v4 : IntKind.i64.wrap (((D.p : Int) - ci) * fj) = ((D.p : Int) - ci) * fj := w64 _ (by omega)
        have v5 : IntKind.i64.wrap (cij + ((D.p : Int) - ci) * fj) = cij + ((D.p : Int) - ci) * fj := w64 _ (by omega)
        have v6 : (cij + ((D.p : Int) - ci) * fj).tmod D.p = (cij + ((D.p : Int) - ci) * fj) % D.p := Int.tmod_eq_emod_of_nonneg (by omega)
        have v7 : IntKind.i64.wrap ((j : Int) + 1) = j + 1 := w64 _ (by omega)
        have hp0 : (D.p : Int) ≠ 0 := by omega
        have hp0' : D.p ≠ 0 := by omega
        generalize hnv : (cij + ((D.p : Int) - ci) * fj) % (D.p : Int) = nv at *
        have c2 : (0 : Int) ≤ ((ii - D.m + j : Nat) : Int) := by omega
        have c3 : ((ii - D.m + j : Nat) : Int) < ((2 * D.m - 1 : Nat) : Int) := by omega
        have c4 : ii - D.m + j < 2 * D.m - 1 := by omega
        have c5 : (ii : Int) < ((2 * D.m - 1 : Nat) : Int) := by omega
        have c6 : ii < 2 * D.m - 1 := by omega
        have hres : Kp g (hset h3 b9 (ints (c'.set (ii - D.m + j) nv))) ∧ ∃ c2, (hset h3 b9 (ints (c'.set (ii - D.m + j) nv))) b9 = some (ints c2) ∧ c2.length = 2 * D.m - 1 ∧ Dg D.p c2 ∧ c2.getD ii 0 = ci ∧ Q D.m D.p (evk D.m D.moV ii (vl c2)) (fun t => evk D.m D.moV ii (vl c) t + S (j + 1) (fun j => -(ci * D.moV j) * Tn D.m D.moV (ii - D.m + j) (e 0) t)) :=
          ⟨hkp3.set hb9 _, _, hset_same .., by simp [hcl'], Dg_set hcd' hrm _, by
            have := vl_set c' nv ii hij
            rw [if_neg (by omega)] at this
            exact this.trans hci', hstep⟩
        clear hstep hcq hcq'
        generalize ii - D.m + j = ij at v2 hldc hst c2 c3 c4 hres ⊢
        simp [n3, n9, n12, k13, s0, s1, s2, hj, v1, v2, v3, v4, v5, v6, v7, hldc, hldi, hjm, hldm, hp0, hp0', c2, c3, c4, c5, c6, hst]
        simpa using hres
      · have : j = D.m := by omega
        subst this
        have v7 : IntKind.i64.wrap ((ii : Int) - 1) = ii - 1 := w64 _ (by omega)
        have hfin : Q D.m D.p (evk D.m D.moV (2 * D.m - 1 - (k + 1)) (vl c')) tgt := by
          rw [show 2 * D.m - 1 - (k + 1) = ii by omega]
          refine hcq'.trans (Q.trans ?_ hcq)
          have htop := (Tn_top (m := D.m) (mo := D.moV) (p := D.p) r.m1 c1').smul ci
          refine ((Q.refl (evk D.m D.moV ii (vl c))).add ?_).trans (Q.of fun t _ => (hevk0 t).symm)
          refine Q.trans (Q.of fun t _ => ?_) htop.symm
          rw [← S_mul]
          refine S_congr fun q _ => ?_
          grind
        simp [n3, n12, k13, s1, v7]
        exact ⟨by omega, hkp3, ⟨c', hc', hcl', hcd', hfin⟩, by omega⟩
    · have : k = D.m - 1 := by omega
      subst this
      have cc : ¬ (D.m : Int) ≤ i2 := by omega
      rw [show 2 * D.m - 1 - (D.m - 1) = D.m by omega] at hcq
      simp [m3, k12, p1, cc]
      refine Fz_one (g := g) (s := 9) (n := 2 * D.m - 1) (sz := 1) (by simp [m9]) hc hb9 hkp2 (by rw [ints_length]; omega) ?_
      have hIc := IL.fs c
      rw [hcl] at hIc
      have hsl := hIc.slcN (lo := 0) (hi := D.m) (by omega) (by omega)
      have hIv := hIc.slv (lo := 0) (hi := D.m) (by omega) (by omega)
      rw [List.drop_zero, Nat.sub_zero] at hIv
      have hcl2 : (c.take D.m).length = D.m := by simp; omega
      have hcd2 : Dg D.p (c.take D.m) := fun z hz => hcd z (List.mem_of_mem_take hz)
      have hval : val D.p (c.take D.m) = D.nu tgt := by
        rw [num_val (by omega) hcd2 hcl2]
        refine num_congr r.p0 (Q.trans (Q.of fun t ht => ?_) ((evk_low (mo := D.moV) r.m1 (vl c)).symm.trans hcq))
        simp only [vl, List.getD, List.getElem?_take]
        rw [if_pos ht]
      simp [m3, l1, l3, hsl]
      refine (s_Value hIv hone (m := D.m) (p := D.p) (by omega) (by omega) hcd2 (by rw [hcl2]; exact r.pm) (by omega)).call ?_
      rw [hval]
      exact ⟨_, hkg.sub, .id _, rfl⟩
end Go.AM.Ytmihmgnjnedfcab
end

section
/- Contracts of functions: powers of the reference and of the program, elements. -/
set_option maxRecDepth 100000
set_option linter.unusedSimpArgs false
set_option linter.unusedVariables false
namespace Go.AM.Ytmihmgnjnedfcab
open Go Go.AM
attribute [local simp ↓] awp_seq awp_reg awp_skip awp_cond awp_block awp_exit awp_ret awp_fz thenW_normal thenW_exit thenW_ret inBlk_normal inBlk_exit inBlk_ret aops_cons aops_nil e_mv e_guard e_pick e_ld e_app e_cpy e_st e_call callW_f updO_some updO_none e_bin e_isnil e_fadr e_iadr e_iarr e_len e_build e_mkf e_nc e_not e_neg e_cvt e_slc e_fld e_ext e_min e_eqs e_new e_box e_mkl e_mks
attribute [local simp] upd_apply ev_t ev_k ev_f binA_add binA_sub binA_mul binA_quo binA_rem binA_eql binA_neq binA_lss binA_leq binA_gtr binA_geq det mem frame0 keeps_nil iadrA_sl fadrA_ref fadrA_fp ldv_agg ldv_one cells_base hset_same hset_hset lenA_fs lenA_sl lenA_nils zeros_ints ints_length one_base one_nilp one_nils one_ref one_sl one_fp one_fs one_fn gl_one resA resOf bound natOf afill splice AV.cells cells_agg bindW_some condW_true condW_false condW_dec condW_ndec guardW_tup guardW_true guardW_true' guardW_false guardW_false' allocW_some pickA_true pickA_false
open Go.FM

theorem Ds.inn_pw {D : Ds} (o : D.Ok) (x : Int) : ∀ n, D.pw (D.inn x) n = D.pw x n
  | 0 => rfl
  | n + 1 => by simp only [Ds.pw]; rw [Ds.inn_pw o x n, o.mul_inn]

theorem pw_zero {D : Ds} (o : D.Ok) {n : Nat} (h : 0 < n) : D.pw 0 n = 0 := by
  obtain ⟨m, rfl⟩ : ∃ m, n = m + 1 := ⟨n - 1, by omega⟩
  simp only [Ds.pw]; rw [o.mul_zero]

/-- Fermat. -/
theorem pw_q1 {D : Ds} (r : Rg D) (hg : ∃ g, D.Gen g) {x : Int} (hx : D.R x) (h0 : x ≠ 0) : D.pw x (D.q - 1) = 1 := by
  obtain ⟨g, hg⟩ := hg
  obtain ⟨i, _, rfl⟩ := hg.all r.toOk hx h0
  have key : ∀ n, D.pw (D.pw g i) n = D.pw g (i * n) := by
    intro n
    induction n with
    | zero => rfl
    | succ n ih => simp only [Ds.pw]; rw [ih, ← r.toOk.pw_add, Nat.mul_succ]
  rw [key, Nat.mul_comm]
  exact Ds.pw_mul_q r.toOk hg.top i

theorem pw_mod {D : Ds} (r : Rg D) (hg : ∃ g, D.Gen g) {x : Int} (hx : D.R x) (h0 : x ≠ 0) (n : Nat) : D.pw x (n % (D.q - 1)) = D.pw x n := by
  conv => rhs; rw [← Nat.div_add_mod n (D.q - 1)]
  rw [r.toOk.pw_add, Ds.pw_mul_q r.toOk (pw_q1 r hg hx h0), r.toOk.one_mul, Ds.inn_of (r.toOk.pwR _ _)]

/-- A field: a ring with a generator. -/
structure Fd (D : Ds) : Prop extends Rg D where
  gen : ∃ g, D.Gen g

theorem s_refPow {D : Ds} (r : Fd D) {mv : AV} (hmv : IL mv D.mo) (x : Int) (n : Nat) (hn : n ≤ 4611686018427387904) : Pure prog n_ref04_Pow [.agg [I D.p, I D.m, mv], I x, I n] (.tup [I (D.pw x n), I 0]) := by
  refine pure_of cf_ref04_Pow rfl fun h => ?_
  have hone := hmv.one
  have hq := r.q256
  have hq2 := r.q2
  simp [hone]
  intro b3 hb3
  obtain ⟨l0, l1, l2, l3⟩ := ld3_at (hset_same h b3 [I D.p, I D.m, mv])
  have hkg : Kp h (hset h b3 [I D.p, I D.m, mv]) := (Kp.refl h).new hb3 _
  generalize hset h b3 [I D.p, I D.m, mv] = g at *
  have fin : ∀ z, D.pw x n = z → RetP h (.tup [I (D.pw x n), I 0]) (.tup [I z, I 0]) g := fun z hz => hz ▸ ⟨_, hkg.sub, .id _, rfl⟩
  simp [l3]
  refine (s_refIn r.toRg hone x).call ?_
  by_cases c1 : n = 0
  · subst c1
    simp
    exact fin 1 rfl
  have c1' : ¬ (n : Int) = 0 := by omega
  have c2 : ¬ (n : Int) < 0 := by omega
  have hR := r.toOk.innR x
  have hpi := Ds.inn_pw r.toOk x n
  generalize hy : D.inn x = y at *
  by_cases c3 : y = 0
  · simp [c1, c1', c2, c3]
    exact fin 0 (by rw [← hpi, c3, pw_zero r.toOk (by omega)])
  simp [c1, c1', c2, c3, l3]
  refine (s_Order D.p D.m hone).call ?_
  rw [r.ord]
  have u1 : IntKind.i64.wrap ((D.q : Int) - 1) = ((D.q - 1 : Nat) : Int) := by rw [w64 _ (by omega)]; omega
  have hk0 : ¬ ((D.q - 1 : Nat) : Int) = 0 := by omega
  have hk0' : ¬ D.q - 1 = 0 := by omega
  have t1 : (n : Int).tmod ((D.q - 1 : Nat) : Int) = ((n % (D.q - 1) : Nat) : Int) := (Int.ofNat_tmod _ _).symm
  have hlt : n % (D.q - 1) < D.q - 1 := Nat.mod_lt _ (by omega)
  have u2 : IntKind.i64.wrap (((n % (D.q - 1) : Nat) : Int) + ((D.q - 1 : Nat) : Int)) = ((n % (D.q - 1) + (D.q - 1) : Nat) : Int) := by rw [w64 _ (by omega)]; omega
  have t2 : ((n % (D.q - 1) + (D.q - 1) : Nat) : Int).tmod ((D.q - 1 : Nat) : Int) = ((n % (D.q - 1) : Nat) : Int) := by
    rw [← Int.ofNat_tmod, Nat.add_mod_right, Nat.mod_mod]
  have hpm := pw_mod r.toRg r.gen (hy ▸ hR) c3 n
  have hQ1 : D.q - 1 ≤ 255 := by omega
  generalize n % (D.q - 1) = j at *
  generalize D.q - 1 = Q1 at *
  generalize j + Q1 = jQ at *
  simp [u1, hk0, hk0', t1, u2, t2]
  refine awp_for j (fun i fr' h' => h' = g ∧ fr' 10 = I i ∧ fr' 9 = I (D.pw y i)) ⟨rfl, by simp, by simp [Ds.pw]⟩ ?_
  intro i fr' h' hin hk ⟨hh, k10, k9⟩
  subst hh
  have k1 := hk 1 (by decide)
  have k2 := hk 2 (by decide)
  have k3 := hk 3 (by decide)
  simp at k1 k2 k3
  clear hk
  by_cases hi : i < j
  · have u3 : IntKind.i64.wrap ((i : Int) + 1) = i + 1 := w64 _ (by omega)
    simp [k1, k2, k3, k9, k10, hi, l3]
    refine (s_refMul r.toRg hmv (D.pw y i) y).call ?_
    simp [k10, u3]
    rfl
  · have : i = j := by omega
    subst this
    simp [k2, k9, k10]
    exact fin _ (by rw [← hpi, hpm])

theorem s_power {D : Ds} (r : Fd D) {mv : AV} (hmv : IL mv D.mo) (x : Int) (n : Nat) (hn : n ≤ 4611686018427387904) : Pure prog n_ref52_power [.agg [I D.p, I D.m, mv], I x, I n] (I (D.pw x n)) := by
  refine pure_of cf_ref52_power rfl fun h => ?_
  have hone := hmv.one
  simp [hone]
  intro b3 hb3
  obtain ⟨l0, l1, l2, l3⟩ := ld3_at (hset_same h b3 [I D.p, I D.m, mv])
  have hkg : Kp h (hset h b3 [I D.p, I D.m, mv]) := (Kp.refl h).new hb3 _
  generalize hset h b3 [I D.p, I D.m, mv] = g at *
  simp [l3]
  refine (s_refPow r hmv x n hn).call ?_
  simp
  exact ⟨_, hkg.sub, .id _, rfl⟩

/-! ### The program's -/

theorem gf_ld (D : Ds) (h : Hp) : cellsAt h (.fp ((gfC D).drop 3)) 1 = some [I D.q] ∧ cellsAt h (.fp ((gfC D).drop 4)) 1 = some [.fs (D.q - 1) (ints (pwL D (gen0 D) (D.q - 1)))] ∧ cellsAt h (.fp ((gfC D).drop 5)) 1 = some [.fs D.q (ints (logK D (gen0 D) (D.q - 1)))] ∧
    cellsAt h (.fp ((gfC D).drop 0)) 1 = some [I D.p] ∧ cellsAt h (.fp ((gfC D).drop 1)) 1 = some [I D.m] := by
  refine ⟨?_, ?_, ?_, ?_, ?_⟩ <;> rw [cellsAt_fp, if_pos (by simp [gfC])] <;> rfl

theorem s_Is {D : Ds} (r : Fd D) (x : Int) : Pure prog n_field_GF_Is [.fp (gfC D), I x] (B (decide (0 ≤ x ∧ x < D.q))) := by
  refine pure_of cf_field_GF_Is rfl fun h => ?_
  have g3 := (gf_ld D h).1
  by_cases c : 0 ≤ x
  · simp [c, isNil, g3]
    exact RetP.same
  · simp [c]
    exact RetP.same

theorem s_in {D : Ds} (r : Fd D) (x : Int) : Pure prog n_field_GF_in [.fp (gfC D), I x] (I (D.inn x)) := by
  refine pure_of cf_field_GF_in rfl fun h => ?_
  simp
  refine (s_Is r x).call ?_
  unfold Ds.inn
  by_cases c : 0 ≤ x ∧ x < D.q
  · rw [decide_eq_true c, if_pos c]
    simp
    exact RetP.same
  · rw [decide_eq_false c, if_neg c]
    simp
    exact RetP.same

/-- The exponent of an element. -/
theorem log_ex {D : Ds} (r : Fd D) {y : Int} (hy : D.R y) (h0 : y ≠ 0) : ∃ i, i < D.q - 1 ∧ D.pw (gen0 D) i = y ∧ (logK D (gen0 D) (D.q - 1)).getD y.toNat 0 = i := by
  have g1 := (gen0_spec r.toRg r.gen).1
  obtain ⟨i, hi, rfl⟩ := g1.all r.toOk hy h0
  exact ⟨i, hi, rfl, logK_get r.toOk g1 _ (Nat.le_refl _) i hi⟩

theorem s_Pow {D : Ds} (r : Fd D) (x : Int) (n : Nat) (hn : n ≤ 4611686018427387904) : Pure prog n_field_GF_Pow [.fp (gfC D), I x, I n] (.tup [I (D.pw x n), I 0]) := by
  refine pure_of cf_field_GF_Pow rfl fun h => ?_
  have hq := r.q256
  have hq2 := r.q2
  have fin : ∀ z, D.pw x n = z → RetP h (.tup [I (D.pw x n), I 0]) (.tup [I z, I 0]) h := fun z hz => hz ▸ RetP.same
  simp
  refine (s_in r x).call ?_
  by_cases c1 : n = 0
  · subst c1
    simp
    exact fin 1 rfl
  have c1' : ¬ (n : Int) = 0 := by omega
  have c2 : ¬ (n : Int) < 0 := by omega
  have hR := r.toOk.innR x
  have hpi := Ds.inn_pw r.toOk x n
  generalize hy : D.inn x = y at *
  by_cases c3 : y = 0
  · simp [c1, c1', c2, c3]
    exact fin 0 (by rw [← hpi, c3, pw_zero r.toOk (by omega)])
  obtain ⟨i, hi, hpw, hlog⟩ := log_ex r hR c3
  have g1 := (gen0_spec r.toRg r.gen).1
  obtain ⟨l3, l4, l5, _, _⟩ := gf_ld D h
  have hIl := IL.fs (logK D (gen0 D) (D.q - 1))
  rw [logK_len] at hIl
  have hIe := IL.fs (pwL D (gen0 D) (D.q - 1))
  rw [pwL_len] at hIe
  have hR1 := hR.1
  have hR2 := hR.2
  have hia := hIl.iadr (i := y) ⟨hR1, by rw [logK_len]; exact hR2⟩
  have hld := fun h' => ld_ints (h := h') (l := logK D (gen0 D) (D.q - 1)) (k := y.toNat) (by rw [logK_len]; omega)
  rw [hlog] at hld
  have u1 : IntKind.i64.wrap ((D.q : Int) - 1) = ((D.q - 1 : Nat) : Int) := by rw [w64 _ (by omega)]; omega
  have hk0 : ¬ ((D.q - 1 : Nat) : Int) = 0 := by omega
  have hk0' : ¬ D.q - 1 = 0 := by omega
  have t1 : (n : Int).tmod ((D.q - 1 : Nat) : Int) = ((n % (D.q - 1) : Nat) : Int) := (Int.ofNat_tmod _ _).symm
  have hlt : n % (D.q - 1) < D.q - 1 := Nat.mod_lt _ (by omega)
  have u2 : IntKind.i64.wrap (((n % (D.q - 1) : Nat) : Int) + ((D.q - 1 : Nat) : Int)) = ((n % (D.q - 1) + (D.q - 1) : Nat) : Int) := by rw [w64 _ (by omega)]; omega
  have t2 : ((n % (D.q - 1) + (D.q - 1) : Nat) : Int).tmod ((D.q - 1 : Nat) : Int) = ((n % (D.q - 1) : Nat) : Int) := by
    rw [← Int.ofNat_tmod, Nat.add_mod_right, Nat.mod_mod]
  have hb : i * (n % (D.q - 1)) ≤ 256 * 256 := Nat.mul_le_mul (by omega) (by omega)
  have u3 : IntKind.i64.wrap ((i : Int) * ((n % (D.q - 1) : Nat) : Int)) = ((i * (n % (D.q - 1)) : Nat) : Int) := by rw [← Int.natCast_mul]; exact w64 _ (by omega)
  have t3 : ((i * (n % (D.q - 1)) : Nat) : Int).tmod ((D.q - 1 : Nat) : Int) = ((i * (n % (D.q - 1)) % (D.q - 1) : Nat) : Int) := (Int.ofNat_tmod _ _).symm
  have hlt2 : i * (n % (D.q - 1)) % (D.q - 1) < D.q - 1 := Nat.mod_lt _ (by omega)
  have hib := hIe.iadr (i := ((i * (n % (D.q - 1)) % (D.q - 1) : Nat) : Int)) ⟨by omega, by rw [pwL_len]; omega⟩
  simp only [Int.toNat_natCast] at hib
  have hlde := fun h' => ld_ints (h := h') (l := pwL D (gen0 D) (D.q - 1)) (k := i * (n % (D.q - 1)) % (D.q - 1)) (by rw [pwL_len]; omega)
  rw [pwL_getD hlt2] at hlde
  have hres : D.pw (gen0 D) (i * (n % (D.q - 1)) % (D.q - 1)) = D.pw x n := by
    rw [← g1.mod r.toOk, ← hpi, ← pw_mod r.toRg r.gen hR c3 n, ← hpw]
    have key : ∀ k, D.pw (D.pw (gen0 D) i) k = D.pw (gen0 D) (i * k) := by
      intro k
      induction k with
      | zero => rfl
      | succ k ih => simp only [Ds.pw]; rw [ih, ← r.toOk.pw_add, Nat.mul_succ]
    rw [key]
  rw [hres] at hlde
  clear hres hlog hpw
  generalize i * (n % (D.q - 1)) % (D.q - 1) = e3 at *
  generalize i * (n % (D.q - 1)) = e2 at *
  generalize n % (D.q - 1) = e1 at *
  generalize e1 + (D.q - 1) = e4 at *
  simp only [gfC] at l3 l4 l5 ⊢
  generalize logK D (gen0 D) (D.q - 1) = LG at *
  generalize pwL D (gen0 D) (D.q - 1) = EX at *
  generalize D.q - 1 = Q1 at *
  simp only [List.drop_succ_cons, List.drop_zero] at l3 l4 l5
  simp [c1, c1', c2, c3, isNil, l3, l4, l5, u1, hk0, hk0', t1, u2, t2, hia, hld, u3, t3, hib, hlde]
  exact fin _ rfl
end Go.AM.Ytmihmgnjnedfcab
end

section
/- Contracts of functions: the checks of a regenerating code. -/
set_option maxRecDepth 100000
set_option linter.unusedSimpArgs false
set_option linter.unusedVariables false
namespace Go.AM.Ytmihmgnjnedfcab
open Go Go.AM
attribute [local simp ↓] awp_seq awp_reg awp_skip awp_cond awp_block awp_exit awp_ret awp_fz thenW_normal thenW_exit thenW_ret inBlk_normal inBlk_exit inBlk_ret aops_cons aops_nil e_mv e_guard e_pick e_ld e_app e_cpy e_st e_call callW_f updO_some updO_none e_bin e_isnil e_fadr e_iadr e_iarr e_len e_build e_mkf e_nc e_not e_neg e_cvt e_slc e_fld e_ext e_min e_eqs e_new e_box e_mkl e_mks
attribute [local simp] upd_apply ev_t ev_k ev_f binA_add binA_sub binA_mul binA_quo binA_rem binA_eql binA_neq binA_lss binA_leq binA_gtr binA_geq det mem frame0 keeps_nil iadrA_sl fadrA_ref fadrA_fp ldv_agg ldv_one cells_base hset_same hset_hset lenA_fs lenA_sl lenA_nils zeros_ints ints_length one_base one_nilp one_nils one_ref one_sl one_fp one_fs one_fn gl_one resA resOf bound natOf afill splice AV.cells cells_agg bindW_some condW_true condW_false condW_dec condW_ndec guardW_tup guardW_true guardW_true' guardW_false guardW_false' allocW_some pickA_true pickA_false
open Go.FM

theorem s_Entries {D : Ds} (r : Rg D) {mv v : AV} (hone : one mv = true) {l : List Int} (hv : IL v l) (hl : l.length < 4611686018427387904) :
    ∃ e : Int, (e = 0 ∨ e = 2) ∧ (e = 0 ↔ ∀ x ∈ l, D.R x) ∧ Pure prog n_ref09_Entries [.agg [I D.p, I D.m, mv], v] (I e) := by
  classical
  refine ⟨if ∀ x ∈ l, D.R x then 0 else 2, by split <;> simp, by split <;> simp_all, ?_⟩
  refine pure_of cf_ref09_Entries rfl fun h => ?_
  simp [hone]
  intro b2 hb2
  obtain ⟨l0, l1, l2, l3⟩ := ld3_at (hset_same h b2 [I D.p, I D.m, mv])
  have hkg : Kp h (hset h b2 [I D.p, I D.m, mv]) := (Kp.refl h).new hb2 _
  generalize hset h b2 [I D.p, I D.m, mv] = g at *
  refine awp_for l.length (fun k fr' h' => h' = g ∧ fr' 5 = I k ∧ ∀ x ∈ l.take k, D.R x) ⟨rfl, by simp, by simp⟩ ?_
  intro k fr' h' hkn hk ⟨hh, k5, hx⟩
  subst hh
  have k1 := hk 1 (by decide)
  have k2 := hk 2 (by decide)
  simp at k1 k2
  clear hk
  by_cases hlt : k < l.length
  · have hia := hv.iadr (i := k) ⟨by omega, by omega⟩
    simp at hia
    have hld := fun h' => ld_ints (h := h') hlt
    have hmem : l.getD k 0 ∈ l := by simp only [List.getD, List.getElem?_eq_getElem hlt, Option.getD_some]; exact List.getElem_mem hlt
    have htk : l.take (k + 1) = l.take k ++ [l.getD k 0] := by rw [List.take_succ_eq_append_getElem hlt]; simp [List.getD, hlt]
    rw [htk]
    generalize l.getD k 0 = y at *
    have u1 : IntKind.i64.wrap ((k : Int) + 1) = k + 1 := w64 _ (by omega)
    simp [k1, k2, k5, hv.len, hlt, hia, hld, l3]
    refine (s_refIs r hone y).call ?_
    by_cases c : 0 ≤ y ∧ y < D.q
    · rw [decide_eq_true c]
      simp [k5, u1, hlt]
      intro x hxx
      rcases hxx with hxx | rfl
      · exact hx x hxx
      · exact c
    · rw [decide_eq_false c]
      simp
      rw [if_neg fun hc => c (hc y hmem)]
      exact ⟨_, hkg.sub, .id _, rfl⟩
  · have : k = l.length := by omega
    subst this
    rw [List.take_length] at hx
    simp [k1, k5, hv.len]
    rw [if_pos hx]
    exact ⟨_, hkg.sub, .id _, rfl⟩

/-- A regenerating code, as the program has it. -/
structure Rc where
  p : Int
  m : Int
  mo : List Int
  kd : Int
  k : Int
  d : Int
  pts : List Int

/-- Its cells. -/
abbrev Rc.cells (R : Rc) (mv pv : AV) : List AV := [I R.p, I R.m, mv, I R.kd, I R.k, I R.d, pv]
abbrev Rc.D (R : Rc) : Ds := mkD R.p R.m R.mo

/-- The numbers fit. -/
def Rc.Num (R : Rc) : Prop := ¬ ((R.kd ≠ 0 ∧ R.kd ≠ 1) ∨ R.d < 1 ∨ (R.pts.length : Int) - 1 < R.d ∨ R.k < 1 ∨ R.d < R.k ∨ (R.kd = 1 ∧ R.d ≠ 2 * R.k - 2))

open Classical in
noncomputable def Rc.E (R : Rc) : Int :=
  if ¬ FieldP R.p R.m R.mo then 1 else if R.pts.length < 2 ∨ 64 < R.pts.length then 4 else if ¬ R.Num then 6 else if ¬ (∀ x ∈ R.pts, R.D.R x) then 2 else if ¬ R.pts.Nodup then 18 else
  if R.kd = 1 ∧ ¬ (R.pts.map fun x => R.D.pw x (R.k - 1).toNat).Nodup then 5 else 0

theorem ld7_at {h : Hp} {b : Nat} {x0 x1 x2 x3 x4 x5 x6 : AV} (hb : h b = some [x0, x1, x2, x3, x4, x5, x6]) : cellsAt h (.ref b 0) 3 = some [x0, x1, x2] ∧ cellsAt h (.ref b 3) 1 = some [x3] ∧ cellsAt h (.ref b 4) 1 = some [x4] ∧ cellsAt h (.ref b 5) 1 = some [x5] ∧ cellsAt h (.ref b 6) 1 = some [x6] ∧ cellsAt h (.ref b 0) 7 = some [x0, x1, x2, x3, x4, x5, x6] :=
  ⟨ld_at hb (by simp), ld_one_at hb (by simp), ld_one_at hb (by simp), ld_one_at hb (by simp), ld_one_at hb (by simp), ld_at hb (by simp)⟩

theorem FieldP.fd {p m : Int} {mo : List Int} (h : FieldP p m mo) : Fd (mkD p m mo) := ⟨h.1.rg, h.1.gen.1 h.2⟩

set_option maxHeartbeats 8000000 in
theorem s_regCheck {R : Rc} {mv pv : AV} (hmv : IL mv R.mo) (hml : R.mo.length < 4611686018427387904) (hpv : IL pv R.pts) (hpl : R.pts.length < 4611686018427387904) :
    Pure prog n_regenerate_Check [.agg (R.cells mv pv)] (I R.E) := by
  classical
  refine pure_of cf_regenerate_Check rfl fun h => ?_
  have hone := hmv.one
  have hone2 := hpv.one
  unfold c_regenerate_Check_0 c_regenerate_Check_1
  generalize hC2 : c_regenerate_Check_2 = C2
  simp [hone, hone2]
  intro b1 hb1
  obtain ⟨l0, l3, l4, l5, l6, l7⟩ := ld7_at (hset_same h b1 (R.cells mv pv))
  have hkg : Kp h (hset h b1 (R.cells mv pv)) := (Kp.refl h).new hb1 _
  have hg1 : (hset h b1 (R.cells mv pv)) b1 = some (R.cells mv pv) := hset_same ..
  generalize hset h b1 (R.cells mv pv) = g at *
  have fin : ∀ e, R.E = e → RetP h (I R.E) (I e) g := fun e he => he ▸ ⟨_, hkg.sub, .id _, rfl⟩
  simp [l0]
  refine (s_New R.p R.m hmv hml).call ?_
  subst hC2
  unfold c_regenerate_Check_2 c_regenerate_Check_3
  generalize hC4 : c_regenerate_Check_4 = C4
  unfold newR
  by_cases hf : FieldP R.p R.m R.mo
  case neg =>
    rw [if_neg hf]
    simp [l6, hpv.len]
    exact fin 1 (by rw [Rc.E, if_pos hf])
  rw [if_pos hf]
  have r := hf.fd
  have E1 : R.E = if R.pts.length < 2 ∨ 64 < R.pts.length then 4 else if ¬ R.Num then 6 else if ¬ (∀ x ∈ R.pts, R.D.R x) then 2 else if ¬ R.pts.Nodup then 18 else if R.kd = 1 ∧ ¬ (R.pts.map fun x => R.D.pw x (R.k - 1).toNat).Nodup then 5 else 0 := by
    rw [Rc.E, if_neg (by simpa using hf)]
  by_cases n1 : R.pts.length < 2
  · have n1' : (R.pts.length : Int) < 2 := by omega
    simp [l6, hpv.len, n1, n1']
    exact fin 4 (by rw [E1, if_pos (.inl n1)])
  have n1' : ¬ (R.pts.length : Int) < 2 := by omega
  by_cases n2 : 64 < R.pts.length
  · have n2' : 64 < (R.pts.length : Int) := by omega
    simp [l6, hpv.len, n1, n1', n2, n2']
    exact fin 4 (by rw [E1, if_pos (.inr n2)])
  have n2' : ¬ 64 < (R.pts.length : Int) := by omega
  have E2 := E1
  rw [if_neg (by omega)] at E2
  clear E1
  have bad6 : ¬ R.Num → RetP h (I R.E) (I 6) g := fun hn => fin 6 (by rw [E2, if_pos hn])
  have u0 : IntKind.i64.wrap ((R.pts.length : Int) - 1) = R.pts.length - 1 := w64 _ (by omega)
  by_cases q1 : R.kd ≠ 0 ∧ R.kd ≠ 1
  · simp [l3, l6, hpv.len, n1, n1', n2, n2', q1.1, q1.2]
    exact bad6 fun hn => hn (.inl q1)
  have kd01 : R.kd = 0 ∨ R.kd = 1 := by omega
  by_cases q2 : R.d < 1
  · rcases kd01 with kd | kd <;>
    (simp [l3, l5, l6, hpv.len, n1, n1', n2, n2', kd, q2]; exact bad6 fun hn => hn (.inr (.inl q2)))
  by_cases q3 : (R.pts.length : Int) - 1 < R.d
  · rcases kd01 with kd | kd <;>
    (simp [l3, l5, l6, hpv.len, n1, n1', n2, n2', kd, q2, u0, q3]; exact bad6 fun hn => hn (.inr (.inr (.inl q3))))
  by_cases q4 : R.k < 1
  · rcases kd01 with kd | kd <;>
    (simp [l3, l4, l5, l6, hpv.len, n1, n1', n2, n2', kd, q2, u0, q3, q4]; exact bad6 fun hn => hn (.inr (.inr (.inr (.inl q4)))))
  by_cases q5 : R.d < R.k
  · rcases kd01 with kd | kd <;>
    (simp [l3, l4, l5, l6, hpv.len, n1, n1', n2, n2', kd, q2, u0, q3, q4, q5]; exact bad6 fun hn => hn (.inr (.inr (.inr (.inr (.inl q5))))))
  have u5 : IntKind.i64.wrap (2 * R.k) = 2 * R.k := w64 _ (by omega)
  have u6 : IntKind.i64.wrap (2 * R.k - 2) = 2 * R.k - 2 := w64 _ (by omega)
  by_cases q6 : R.kd = 1 ∧ R.d ≠ 2 * R.k - 2
  · obtain ⟨kd, q6'⟩ := q6
    simp [l3, l4, l5, l6, hpv.len, n1, n1', n2, n2', kd, q2, u0, q3, q4, q5, u5, u6, q6']
    exact bad6 fun hn => hn (.inr (.inr (.inr (.inr (.inr ⟨kd, q6'⟩)))))
  have hN : R.Num := fun hc => by
    rcases hc with h1 | h1 | h1 | h1 | h1 | h1
    · exact q1 h1
    · exact q2 h1
    · exact q3 h1
    · exact q4 h1
    · exact q5 h1
    · exact q6 h1
  have E3 := E2
  rw [if_neg (by simpa using hN)] at E3
  clear E2 bad6
  have go : ∀ fr : Fr, fr 1 = .ref b1 0 → fr 3 = .fp (gfC R.D) → awp prog c_regenerate_Check_4 (fun e fr' h' => (e = .normal ∨ e = .ret) ∧ RetP h (I R.E) (fr' 2) h') fr g := by
    intro fr f1 f3
    clear hC4 C4
    have hmp : ∀ k, k < R.pts.length → R.pts.getD k 0 ∈ R.pts := fun k hk => by simp only [List.getD, List.getElem?_eq_getElem hk, Option.getD_some]; exact List.getElem_mem hk
    have htk : ∀ k, k < R.pts.length → R.pts.take (k + 1) = R.pts.take k ++ [R.pts.getD k 0] := fun k hk => by rw [List.take_succ_eq_append_getElem hk]; simp [List.getD, hk]
    simp [f1, l6, hpv.len]
    refine awp_for R.pts.length (fun k fr' h' => h' = g ∧ fr' 77 = I k ∧ ∀ x ∈ R.pts.take k, R.D.R x) ⟨rfl, by simp, by simp⟩ ?_
    intro k fr' h' hkn hk ⟨hh, k77, hx⟩
    subst hh
    have k1 := hk 1 (by decide)
    have k3 := hk 3 (by decide)
    have k75 := hk 75 (by decide)
    have k76 := hk 76 (by decide)
    simp [f1, f3] at k1 k3 k75 k76
    clear hk
    by_cases hlt : k < R.pts.length
    · have hia := hpv.iadr (i := k) ⟨by omega, by omega⟩
      simp at hia
      have hld := fun h' => ld_ints (h := h') hlt
      have hm := hmp k hlt
      rw [htk k hlt]
      generalize R.pts.getD k 0 = y at *
      have u1 : IntKind.i64.wrap ((k : Int) + 1) = k + 1 := w64 _ (by omega)
      simp [k3, k75, k76, k77, hlt, hia, hld]
      refine (s_Is r y).call ?_
      by_cases c : 0 ≤ y ∧ y < R.D.q
      · rw [decide_eq_true c]
        simp [k77, u1, hlt]
        intro x hxx
        rcases hxx with hxx | rfl
        · exact hx x hxx
        · exact c
      · rw [decide_eq_false c]
        simp
        exact fin 2 (by rw [E3, if_pos fun hc => c (hc y hm)])
    have : k = R.pts.length := by omega
    subst this
    rw [List.take_length] at hx
    have E4 := E3
    rw [if_neg (by simpa using hx)] at E4
    simp [k1, k76, k77, l6]
    refine (s_twice hpv hpl).call ?_
    by_cases hd : R.pts.Nodup
    case neg =>
      simp [hd]
      exact fin 18 (by rw [E4, if_pos hd])
    have E5 := E4
    rw [if_neg (by simpa using hd)] at E5
    by_cases kd : R.kd = 1
    case neg =>
      simp [hd, k1, l3, kd]
      exact fin 0 (by rw [E5, if_neg (fun hc => kd hc.1)])
    obtain ⟨kn, hkn2⟩ : ∃ n : Nat, R.k = n + 1 := ⟨(R.k - 1).toNat, by omega⟩
    have hkt : (R.k - 1).toNat = kn := by omega
    rw [hkt] at E5
    have ukn : IntKind.i64.wrap (R.k - 1) = kn := by rw [w64 _ (by omega)]; omega
    obtain ⟨L, hL⟩ : ∃ L : List Int, L = R.pts.map fun x => R.D.pw x kn := ⟨_, rfl⟩
    have hLl : L.length = R.pts.length := by rw [hL, List.length_map]
    have hLt : ∀ j, j < R.pts.length → L.take (j + 1) = L.take j ++ [R.D.pw (R.pts.getD j 0) kn] := fun j hj => by
      rw [List.take_succ_eq_append_getElem (by omega)]
      simp [hL, List.getD, hj]
    rw [← hL] at E5
    simp [hd, k1, l3, kd, l6, hpv.len]
    refine awp_for R.pts.length (fun j fr2 h2 => (∃ v, fr2 8 = v ∧ Own 1 h' h2 v j (ints (L.take j))) ∧ fr2 95 = I j) ⟨⟨.nils, by simp, by simpa [ints] using Own.nils 1 h'⟩, by simp⟩ ?_
    intro j fr2 h2 hjn hk2 ⟨⟨v8, k8, o⟩, k95⟩
    have m1 := hk2 1 (by decide)
    have m3 := hk2 3 (by decide)
    have m93 := hk2 93 (by decide)
    have m94 := hk2 94 (by decide)
    simp [k1, k3] at m1 m3 m93 m94
    clear hk2
    obtain ⟨p0, p3, p4, p5, p6, p7⟩ := ld7_at (o.rd hg1)
    by_cases hj : j < R.pts.length
    · have hia := hpv.iadr (i := j) ⟨by omega, by omega⟩
      simp at hia
      have hld := fun h' => ld_ints (h := h') hj
      rw [hLt j hj]
      clear hL hLt
      generalize R.pts.getD j 0 = y at *
      have u1 : IntKind.i64.wrap ((j : Int) + 1) = j + 1 := w64 _ (by omega)
      simp [m1, m3, m93, m94, k95, hj, hia, hld, p4, ukn]
      refine (s_Pow r y kn (by omega)).call ?_
      simp [k8]
      intro b hb
      refine o.app1 (m := 1) hb (by simp) (by omega) fun v' h3 o3 => ?_
      simp [k95, u1, hj]
      rw [ints_append]
      exact o3
    · have : j = R.pts.length := by omega
      subst this
      rw [List.take_of_length_le (by omega)] at o
      simp [k95, m94]
      refine Fz_own (g := h') (s := 8) k8 o (Kp.refl _) ?_
      have hgl := gil_IL L
      rw [gil, hLl] at hgl
      simp
      refine (s_twice hgl (by omega)).call ?_
      by_cases hd2 : L.Nodup
      · simp [hd2]
        exact fin 0 (by rw [E5, if_neg (fun hc => hc.2 hd2)])
      · simp [hd2]
        exact fin 5 (by rw [E5, if_pos ⟨kd, hd2⟩])
  rw [hC4] at go
  rcases kd01 with kd | kd
  · simp [l3, l4, l5, l6, hpv.len, n1, n1', n2, n2', kd, q2, u0, q3, q4, q5, u5, u6]
    exact go _ (by simp) (by simp)
  · have q6' : R.d = 2 * R.k - 2 := Classical.byContradiction fun hc => q6 ⟨kd, hc⟩
    have u7 : IntKind.i64.wrap R.d = R.d := w64 _ (by omega)
    simp [l3, l4, l5, l6, hpv.len, n1, n1', n2, n2', kd, q2, u0, q3, q4, q5, u5, u6, u7, ← q6']
    refine go _ ?_ ?_ <;> simp
end Go.AM.Ytmihmgnjnedfcab
end

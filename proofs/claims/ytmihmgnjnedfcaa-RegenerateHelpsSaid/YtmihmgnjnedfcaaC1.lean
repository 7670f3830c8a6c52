/- Codes of the program, as the conversion gives them. -/
import Derived.Test.YtmihmgnjnedfcaaNum
set_option maxRecDepth 100000
namespace Go.AM.Ytmihmgnjnedfcaa
open Go Go.AM
-- slices_Index_int_int
abbrev c_slices_Index_int_intL0_3 : SC := (.reg [o 18 (.bin .add (.t 8) (ki 1)), o 8 (.mv (.t 18))])
abbrev c_slices_Index_int_intL0_2 : SC := .seq (.block 1 (.seq (.reg [o 10 (.mv (.t 8)), o 5 (.mv (.t 10))]) (.seq (.reg [o 11 (.mv (.t 1)), o 12 (.mv (.t 0)), o 13 (.mv (.t 5)), o 14 (.iadr (.t 12) (.t 13) 1), o 15 (.ld (.t 14) 1 false), o 16 (.bin .eql (.t 11) (.t 15))]) (.cond (.t 16) (.seq (.reg [o 17 (.mv (.t 5)), o 4 (.mv (.t 17))]) .ret) .skip)))) c_slices_Index_int_intL0_3
abbrev c_slices_Index_int_intL0_1 : SC := .seq (.cond (.t 9) .skip (.exit 0)) c_slices_Index_int_intL0_2
abbrev c_slices_Index_int_intL0_0 : SC := .seq (.reg [o 9 (.bin .lss (.t 8) (.t 7))]) c_slices_Index_int_intL0_1
abbrev c_slices_Index_int_int_3 : SC := .ret
abbrev c_slices_Index_int_int_2 : SC := .seq (.reg [o 4 (.mv (ki (-1)))]) c_slices_Index_int_int_3
abbrev c_slices_Index_int_int_1 : SC := .seq (.seq (.reg [o 6 (.mv (.t 0)), o 7 (.len (.t 6)), o 8 (.mv (ki 0))]) (.block 0 (.loop c_slices_Index_int_intL0_0))) c_slices_Index_int_int_2
abbrev c_slices_Index_int_int_0 : SC := .seq (.reg [o 4 (.mv (ki 0))]) c_slices_Index_int_int_1
theorem cf_slices_Index_int_int : cfun Go.Proofs.Try.prog md n_slices_Index_int_int = some ⟨2, 19, c_slices_Index_int_int_0.erase, [.t 4]⟩ := by kernel_rfl
-- slices_Contains_int_int
abbrev c_slices_Contains_int_int_2 : SC := .ret
abbrev c_slices_Contains_int_int_1 : SC := .seq (.reg [o 5 (.mv (.t 0)), o 6 (.mv (.t 1)), o 7 (.call (.f n_slices_Index_int_int) [.t 5, .t 6]), o 8 (.bin .geq (.t 7) (ki 0)), o 4 (.mv (.t 8))]) c_slices_Contains_int_int_2
abbrev c_slices_Contains_int_int_0 : SC := .seq (.reg [o 4 (.mv (kb false))]) c_slices_Contains_int_int_1
theorem cf_slices_Contains_int_int : cfun Go.Proofs.Try.prog md n_slices_Contains_int_int = some ⟨2, 9, c_slices_Contains_int_int_0.erase, [.t 4]⟩ := by kernel_rfl
-- regenerate_twice
abbrev c_regenerate_twiceL0_3 : SC := (.reg [o 17 (.bin .add (.t 7) (ki 1)), o 7 (.mv (.t 17))])
abbrev c_regenerate_twiceL0_2 : SC := .seq (.block 1 (.seq (.reg [o 9 (.mv (.t 7)), o 10 (.iadr (.t 5) (.t 7) 1), o 11 (.ld (.t 10) 1 false), o 3 (.mv (.t 9)), o 4 (.mv (.t 11))]) (.seq (.reg [o 12 (.mv (.t 0)), o 13 (.mv (.t 3)), o 14 (.slc (.t 12) none (some (.t 13)) none 1), o 15 (.mv (.t 4)), o 16 (.call (.f n_slices_Contains_int_int) [.t 14, .t 15])]) (.cond (.t 16) (.seq (.reg [o 2 (.mv (kb true))]) .ret) .skip)))) c_regenerate_twiceL0_3
abbrev c_regenerate_twiceL0_1 : SC := .seq (.cond (.t 8) .skip (.exit 0)) c_regenerate_twiceL0_2
abbrev c_regenerate_twiceL0_0 : SC := .seq (.reg [o 8 (.bin .lss (.t 7) (.t 6))]) c_regenerate_twiceL0_1
abbrev c_regenerate_twice_3 : SC := .ret
abbrev c_regenerate_twice_2 : SC := .seq (.reg [o 2 (.mv (kb false))]) c_regenerate_twice_3
abbrev c_regenerate_twice_1 : SC := .seq (.seq (.reg [o 5 (.mv (.t 0)), o 6 (.len (.t 5)), o 7 (.mv (ki 0))]) (.block 0 (.loop c_regenerate_twiceL0_0))) c_regenerate_twice_2
abbrev c_regenerate_twice_0 : SC := .seq (.reg [o 2 (.mv (kb false))]) c_regenerate_twice_1
theorem cf_regenerate_twice : cfun Go.Proofs.Try.prog md n_regenerate_twice = some ⟨1, 18, c_regenerate_twice_0.erase, [.t 2]⟩ := by kernel_rfl
-- regenerate_nodes
abbrev c_regenerate_nodesL0_3 : SC := (.reg [o 33 (.bin .add (.t 17) (ki 1)), o 17 (.mv (.t 33))])
abbrev c_regenerate_nodesL0_2 : SC := .seq (.block 1 (.seq (.reg [o 19 (.iadr (.t 15) (.t 17) 1), o 20 (.ld (.t 19) 1 false), o 10 (.mv (.t 20))]) (.seq (.reg [o 21 (.mv (.t 10)), o 22 (.bin .lss (.t 21) (ki 0)), o 23 (.mv (.t 22)), og 23 false 0 24 (.mv (.t 10)), og 23 false 0 25 (.mv (.t 2)), og 23 false 0 26 (.bin .geq (.t 24) (.t 25)), o 27 (.pick (.t 23) (kb true) (.t 26)), o 28 (.mv (.t 27)), og 28 false 0 29 (.mv (.t 10)), og 28 false 0 30 (.mv (.t 3)), og 28 false 0 31 (.bin .eql (.t 29) (.t 30)), o 32 (.pick (.t 28) (kb true) (.t 31))]) (.cond (.t 32) (.seq (.reg [o 8 (.mv (ki 6))]) .ret) .skip)))) c_regenerate_nodesL0_3
abbrev c_regenerate_nodesL0_1 : SC := .seq (.cond (.t 18) .skip (.exit 0)) c_regenerate_nodesL0_2
abbrev c_regenerate_nodesL0_0 : SC := .seq (.reg [o 18 (.bin .lss (.t 17) (.t 16))]) c_regenerate_nodesL0_1
abbrev c_regenerate_nodes_5 : SC := .ret
abbrev c_regenerate_nodes_4 : SC := .seq (.reg [o 8 (.mv (ki 0))]) c_regenerate_nodes_5
abbrev c_regenerate_nodes_3 : SC := .seq (.seq (.reg [o 34 (.mv (.t 0)), o 35 (.call (.f n_regenerate_twice) [.t 34])]) (.cond (.t 35) (.seq (.reg [o 8 (.mv (ki 18))]) .ret) .skip)) c_regenerate_nodes_4
abbrev c_regenerate_nodes_2 : SC := .seq (.seq (.reg [o 15 (.mv (.t 0)), o 16 (.len (.t 15)), o 17 (.mv (ki 0))]) (.block 0 (.loop c_regenerate_nodesL0_0))) c_regenerate_nodes_3
abbrev c_regenerate_nodes_1 : SC := .seq (.seq (.reg [o 11 (.mv (.t 0)), o 12 (.len (.t 11)), o 13 (.mv (.t 1)), o 14 (.bin .neq (.t 12) (.t 13))]) (.cond (.t 14) (.seq (.reg [o 8 (.mv (ki 3))]) .ret) .skip)) c_regenerate_nodes_2
abbrev c_regenerate_nodes_0 : SC := .seq (.reg [o 8 (.mv (ki 0))]) c_regenerate_nodes_1
theorem cf_regenerate_nodes : cfun Go.Proofs.Try.prog md n_regenerate_nodes = some ⟨4, 36, c_regenerate_nodes_0.erase, [.t 8]⟩ := by kernel_rfl
-- ref52_list
abbrev c_ref52_listL0_2 : SC := (.reg [o 14 (.mv (.t 7)), o 15 (.bin .add (.t 14) (ki 1)), o 7 (.mv (.t 15))])
abbrev c_ref52_listL0_1 : SC := .seq (.block 1 (.seq (.reg [o 16 (.mv (.t 1)), o 17 (.mv (.t 7)), o 18 (.iadr (.t 16) (.t 17) 1), o 19 (.ld (.t 18) 1 false), o 20 (.bin .lss (.t 19) (ki 0)), o 21 (.mv (.t 20)), og 21 false 0 22 (.mv (.t 1)), og 21 false 0 23 (.mv (.t 7)), og 21 false 0 24 (.iadr (.t 22) (.t 23) 1), og 21 false 0 25 (.ld (.t 24) 1 false), og 21 false 0 26 (.mv (.t 0)), og 21 false 0 27 (.bin .geq (.t 25) (.t 26)), o 28 (.pick (.t 21) (kb true) (.t 27)), o 29 (.mv (.t 28)), og 29 false 0 30 (.mv (.t 1)), og 29 false 0 31 (.mv (.t 7)), og 29 false 0 32 (.iadr (.t 30) (.t 31) 1), og 29 false 0 33 (.ld (.t 32) 1 false), og 29 false 0 34 (.mv (.t 2)), og 29 false 0 35 (.bin .eql (.t 33) (.t 34)), o 36 (.pick (.t 29) (kb true) (.t 35))]) (.cond (.t 36) (.seq (.reg [o 6 (.mv (ki 6))]) .ret) .skip))) c_ref52_listL0_2
abbrev c_ref52_listL0_0 : SC := .seq (.seq (.reg [o 10 (.mv (.t 7)), o 11 (.mv (.t 1)), o 12 (.len (.t 11)), o 13 (.bin .lss (.t 10) (.t 12))]) (.cond (.t 13) .skip (.exit 0))) c_ref52_listL0_1
abbrev c_ref52_listL2_2 : SC := (.reg [o 46 (.mv (.t 9)), o 47 (.bin .add (.t 46) (ki 1)), o 9 (.mv (.t 47))])
abbrev c_ref52_listL2_1 : SC := .seq (.block 5 (.seq (.reg [o 48 (.mv (.t 1)), o 49 (.mv (.t 8)), o 50 (.iadr (.t 48) (.t 49) 1), o 52 (.mv (.t 1)), o 53 (.mv (.t 9)), o 54 (.iadr (.t 52) (.t 53) 1), o 51 (.ld (.t 50) 1 false), o 55 (.ld (.t 54) 1 false), o 56 (.bin .eql (.t 51) (.t 55))]) (.cond (.t 56) (.seq (.reg [o 6 (.mv (ki 18))]) .ret) .skip))) c_ref52_listL2_2
abbrev c_ref52_listL2_0 : SC := .seq (.seq (.reg [o 43 (.mv (.t 9)), o 44 (.mv (.t 8)), o 45 (.bin .lss (.t 43) (.t 44))]) (.cond (.t 45) .skip (.exit 4))) c_ref52_listL2_1
abbrev c_ref52_listL1_2 : SC := (.reg [o 41 (.mv (.t 8)), o 42 (.bin .add (.t 41) (ki 1)), o 8 (.mv (.t 42))])
abbrev c_ref52_listL1_1 : SC := .seq (.block 3 (.seq (.reg [o 9 (.mv (ki 0))]) (.block 4 (.loop c_ref52_listL2_0)))) c_ref52_listL1_2
abbrev c_ref52_listL1_0 : SC := .seq (.seq (.reg [o 37 (.mv (.t 8)), o 38 (.mv (.t 1)), o 39 (.len (.t 38)), o 40 (.bin .lss (.t 37) (.t 39))]) (.cond (.t 40) .skip (.exit 2))) c_ref52_listL1_1
abbrev c_ref52_list_4 : SC := .ret
abbrev c_ref52_list_3 : SC := .seq (.reg [o 6 (.mv (ki 0))]) c_ref52_list_4
abbrev c_ref52_list_2 : SC := .seq (.seq (.reg [o 8 (.mv (ki 0))]) (.block 2 (.loop c_ref52_listL1_0))) c_ref52_list_3
abbrev c_ref52_list_1 : SC := .seq (.seq (.reg [o 7 (.mv (ki 0))]) (.block 0 (.loop c_ref52_listL0_0))) c_ref52_list_2
abbrev c_ref52_list_0 : SC := .seq (.reg [o 6 (.mv (ki 0))]) c_ref52_list_1
theorem cf_ref52_list : cfun Go.Proofs.Try.prog md n_ref52_list = some ⟨3, 57, c_ref52_list_0.erase, [.t 6]⟩ := by kernel_rfl
-- ref52_GraphArgs
abbrev c_ref52_GraphArgsL0_2 : SC := (.reg [o 49 (.mv (.t 12)), o 50 (.bin .add (.t 49) (ki 1)), o 12 (.mv (.t 50))])
abbrev c_ref52_GraphArgsL0_1 : SC := .seq (.block 1 (.seq (.seq (.reg [o 51 (.mv (.t 3)), o 52 (.mv (.t 12)), o 53 (.iadr (.t 51) (.t 52) 2), o 54 (.fadr (.t 53) 0), o 55 (.ld (.t 54) 1 false), o 56 (.bin .lss (.t 55) (ki 0)), o 57 (.mv (.t 56)), og 57 false 0 58 (.mv (.t 3)), og 57 false 0 59 (.mv (.t 12)), og 57 false 0 60 (.iadr (.t 58) (.t 59) 2), og 57 false 0 61 (.fadr (.t 60) 0), og 57 false 0 62 (.ld (.t 61) 1 false), og 57 false 0 63 (.mv (.t 0)), og 57 false 0 64 (.bin .geq (.t 62) (.t 63)), o 65 (.pick (.t 57) (kb true) (.t 64))]) (.cond (.t 65) (.seq (.reg [o 10 (.mv (ki 6))]) .ret) .skip)) (.seq (.reg [o 66 (.mv (.t 0)), o 67 (.mv (.t 3)), o 68 (.mv (.t 12)), o 69 (.iadr (.t 67) (.t 68) 2), o 70 (.fadr (.t 69) 1), o 72 (.mv (.t 3)), o 73 (.mv (.t 12)), o 74 (.iadr (.t 72) (.t 73) 2), o 75 (.fadr (.t 74) 0), o 71 (.ld (.t 70) 1 false), o 76 (.ld (.t 75) 1 false), om 1 77 (.call (.f n_ref52_list) [.t 66, .t 71, .t 76]), o 13 (.mv (.t 77))]) (.seq (.seq (.reg [o 78 (.mv (.t 13)), o 79 (.bin .neq (.t 78) (ki 0))]) (.cond (.t 79) (.seq (.reg [o 80 (.mv (.t 13)), o 10 (.mv (.t 80))]) .ret) .skip)) (.reg [o 81 (.mv (.t 11)), o 82 (.mv (.t 3)), o 83 (.mv (.t 12)), o 84 (.iadr (.t 82) (.t 83) 2), o 85 (.fadr (.t 84) 1), o 86 (.ld (.t 85) 1 false), o 87 (.len (.t 86)), o 88 (.bin .add (.t 81) (.t 87)), o 11 (.mv (.t 88))]))))) c_ref52_GraphArgsL0_2
abbrev c_ref52_GraphArgsL0_0 : SC := .seq (.seq (.reg [o 45 (.mv (.t 12)), o 46 (.mv (.t 3)), o 47 (.len (.t 46)), o 48 (.bin .lss (.t 45) (.t 47))]) (.cond (.t 48) .skip (.exit 0))) c_ref52_GraphArgsL0_1
abbrev c_ref52_GraphArgs_8 : SC := .ret
abbrev c_ref52_GraphArgs_7 : SC := .seq (.reg [o 10 (.mv (ki 0))]) c_ref52_GraphArgs_8
abbrev c_ref52_GraphArgs_6 : SC := .seq (.seq (.reg [o 95 (.mv (.t 0)), o 96 (.mv (.t 3)), o 97 (.len (.t 96)), o 98 (.bin .add (.t 95) (.t 97)), o 99 (.bin .mul (ki 2) (.t 98)), o 100 (.bin .add (.t 99) (ki 2)), o 101 (.bin .gtr (.t 100) (ki 256)), o 102 (.mv (.t 101)), og 102 false 0 103 (.mv (.t 11)), og 102 false 0 104 (.bin .gtr (.t 103) (ki 1024)), o 105 (.pick (.t 102) (kb true) (.t 104))]) (.cond (.t 105) (.seq (.reg [o 10 (.mv (ki 8))]) .ret) .skip)) c_ref52_GraphArgs_7
abbrev c_ref52_GraphArgs_5 : SC := .seq (.seq (.reg [o 92 (.mv (.t 14)), o 93 (.bin .neq (.t 92) (ki 0))]) (.cond (.t 93) (.seq (.reg [o 94 (.mv (.t 14)), o 10 (.mv (.t 94))]) .ret) .skip)) c_ref52_GraphArgs_6
abbrev c_ref52_GraphArgs_4 : SC := .seq (.reg [o 89 (.mv (.t 0)), o 90 (.mv (.t 4)), o 91 (.call (.f n_ref52_list) [.t 89, .t 90, ki (-1)]), o 14 (.mv (.t 91))]) c_ref52_GraphArgs_5
abbrev c_ref52_GraphArgs_3 : SC := .seq (.seq (.reg [o 12 (.mv (ki 0))]) (.block 0 (.loop c_ref52_GraphArgsL0_0))) c_ref52_GraphArgs_4
abbrev c_ref52_GraphArgs_2 : SC := .seq (.reg [o 37 (.mv (.t 0)), o 38 (.bin .mul (ki 2) (.t 37)), o 39 (.mv (.t 3)), o 40 (.len (.t 39)), o 41 (.bin .add (.t 38) (.t 40)), o 42 (.mv (.t 4)), o 43 (.len (.t 42)), o 44 (.bin .add (.t 41) (.t 43)), o 11 (.mv (.t 44))]) c_ref52_GraphArgs_3
abbrev c_ref52_GraphArgs_1 : SC := .seq (.seq (.reg [o 15 (.mv (.t 0)), o 16 (.bin .lss (.t 15) (ki 1)), o 17 (.mv (.t 16)), og 17 false 0 18 (.mv (.t 0)), og 17 false 0 19 (.bin .gtr (.t 18) (ki 64)), o 20 (.pick (.t 17) (kb true) (.t 19)), o 21 (.mv (.t 20)), og 21 false 0 22 (.mv (.t 1)), og 21 false 0 23 (.bin .lss (.t 22) (ki 0)), o 24 (.pick (.t 21) (kb true) (.t 23)), o 25 (.mv (.t 24)), og 25 false 0 26 (.mv (.t 1)), og 25 false 0 27 (.bin .gtr (.t 26) (ki 1048576)), o 28 (.pick (.t 25) (kb true) (.t 27)), o 29 (.mv (.t 28)), og 29 false 0 30 (.mv (.t 2)), og 29 false 0 31 (.bin .lss (.t 30) (ki 0)), o 32 (.pick (.t 29) (kb true) (.t 31)), o 33 (.mv (.t 32)), og 33 false 0 34 (.mv (.t 2)), og 33 false 0 35 (.bin .gtr (.t 34) (ki 1048576)), o 36 (.pick (.t 33) (kb true) (.t 35))]) (.cond (.t 36) (.seq (.reg [o 10 (.mv (ki 6))]) .ret) .skip)) c_ref52_GraphArgs_2
abbrev c_ref52_GraphArgs_0 : SC := .seq (.reg [o 10 (.mv (ki 0))]) c_ref52_GraphArgs_1
theorem cf_ref52_GraphArgs : cfun Go.Proofs.Try.prog md n_ref52_GraphArgs = some ⟨5, 106, c_ref52_GraphArgs_0.erase, [.t 10]⟩ := by kernel_rfl
-- ref52_Same
abbrev c_ref52_SameL0_2 : SC := (.reg [o 25 (.mv (.t 5)), o 26 (.bin .add (.t 25) (ki 1)), o 5 (.mv (.t 26))])
abbrev c_ref52_SameL0_1 : SC := .seq (.block 1 (.seq (.reg [o 27 (.fadr (.t 2) 1), o 29 (.mv (.t 5)), o 32 (.fadr (.t 3) 1), o 34 (.mv (.t 5)), o 28 (.ld (.t 27) 1 false), o 30 (.iadr (.t 28) (.t 29) 3), o 31 (.ld (.t 30) 3 true), o 33 (.ld (.t 32) 1 false), o 35 (.iadr (.t 33) (.t 34) 3), o 36 (.ld (.t 35) 3 true), o 37 (.eqs true 3 (.t 31) (.t 36))]) (.cond (.t 37) (.seq (.reg [o 4 (.mv (kb false))]) .ret) .skip))) c_ref52_SameL0_2
abbrev c_ref52_SameL0_0 : SC := .seq (.seq (.reg [o 20 (.mv (.t 5)), o 21 (.fadr (.t 2) 1), o 22 (.ld (.t 21) 1 false), o 23 (.len (.t 22)), o 24 (.bin .lss (.t 20) (.t 23))]) (.cond (.t 24) .skip (.exit 0))) c_ref52_SameL0_1
abbrev c_ref52_Same_4 : SC := .ret
abbrev c_ref52_Same_3 : SC := .seq (.reg [o 4 (.mv (kb true))]) c_ref52_Same_4
abbrev c_ref52_Same_2 : SC := .seq (.seq (.reg [o 5 (.mv (ki 0))]) (.block 0 (.loop c_ref52_SameL0_0))) c_ref52_Same_3
abbrev c_ref52_Same_1 : SC := .seq (.seq (.reg [o 6 (.fadr (.t 2) 0), o 7 (.ld (.t 6) 1 false), o 8 (.fadr (.t 3) 0), o 9 (.ld (.t 8) 1 false), o 10 (.bin .neq (.t 7) (.t 9)), o 11 (.mv (.t 10)), og 11 false 0 12 (.fadr (.t 2) 1), og 11 false 0 13 (.ld (.t 12) 1 false), og 11 false 0 14 (.len (.t 13)), og 11 false 0 15 (.fadr (.t 3) 1), og 11 false 0 16 (.ld (.t 15) 1 false), og 11 false 0 17 (.len (.t 16)), og 11 false 0 18 (.bin .neq (.t 14) (.t 17)), o 19 (.pick (.t 11) (kb true) (.t 18))]) (.cond (.t 19) (.seq (.reg [o 4 (.mv (kb false))]) .ret) .skip)) c_ref52_Same_2
abbrev c_ref52_Same_0 : SC := .seq (.reg [o 2 (.box (.t 0)), o 3 (.box (.t 1)), o 4 (.mv (kb false))]) c_ref52_Same_1
theorem cf_ref52_Same : cfun Go.Proofs.Try.prog md n_ref52_Same = some ⟨2, 38, c_ref52_Same_0.erase, [.t 4]⟩ := by kernel_rfl
end Go.AM.Ytmihmgnjnedfcaa
